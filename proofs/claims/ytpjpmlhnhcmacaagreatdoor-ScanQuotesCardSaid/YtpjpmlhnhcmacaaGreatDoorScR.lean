/- scan.run and what calls it, walked. -/
import Derived.Test.YtpjpmlhnhcmacaaGreatDoorNmW
import Derived.Test.YtpjpmlhnhcmacaaGreatDoorShelf
namespace Go.Proofs.YtpjpmlhnhcmacaaGreatDoor
open Go.RowKit

theorem str_get {l : List UInt8} {k : Nat} {c : UInt8} (h : l[k]? = some c) : (str l).data[k]? = some c := by simpa [str] using h
theorem str_getE {l : List UInt8} {k : Nat} {c : UInt8} (h : l[k]? = some c) (hk : k < (str l).size) : (str l)[k]'hk = c := by
  obtain ⟨hl, h1⟩ := List.getElem?_eq_some_iff.1 h
  exact (show l.toArray[k] = l[k] by simp).trans h1
theorem str_toList (l : List UInt8) : (str l).toList = l := by rw [ByteArray.toList_eq, str_list]
theorem str_beq (l m : List UInt8) : ((str l).toList == m) = (l == m) := by rw [str_toList]
theorem str_extract (l : List UInt8) (a b : Nat) : (str l).extract a b = str ((l.drop a).take (b - a)) := by
  apply ByteArray.ext
  simp [str]
def fnv (fn : Nat) : Value := .func (.func fn) #[] #[]
/-- The predicates that run is given. -/
def IsFn (fn : Nat) : Prop := fn = 155 ∨ fn = 110 ∨ fn = 160

set_option maxHeartbeats 1600000 in
set_option maxRecDepth 100000 in
theorem run_any (fn : Nat) (hfn : IsFn fn) (p : UInt8 → Bool) (hp : ∀ (c : UInt8) (w : World), Calls Tryz.prog fn #[.int .u8 c.toNat] w fun e w' => e = .returned (.bool (p c)) ∧ w = w') (l : List UInt8) (hl : l.length ≤ 100000) (w : World) :
    Calls Tryz.prog 111 #[.string (str l), fnv fn] w fun e w' => e = .returned (.int .i64 (runL p l)) ∧ w = w' := by
  have HP := Lib.hid hp
  clear hp
  have hsz := str_size l
  unfold fnv
  go_enter Tryz.func111, Tryz.ntmps111
  go_wp2_with fail
  go_loopw [5] (fun i wr => ∃ (k : Nat), k ≤ runL p l ∧ i = .int .i64 k ∧ w = wr) (fun v _ => l.length - (intOf v).toNat)
  case atStart => exact ⟨0, Nat.zero_le _, rfl, rfl⟩
  case round =>
    obtain ⟨k, hk, rfl, rfl⟩ := hrel
    have hle := runL_le p l
    by_cases hlt : k < l.length
    · obtain ⟨c, hc⟩ : ∃ c, l[k]? = some c := ⟨_, List.getElem?_eq_getElem hlt⟩
      have hg := str_getE hc (by omega)
      have HC := Lib.hid hc
      clear hc
      rcases hb : p c with _ | _
      · have hk' : runL p l = k := by
          rcases Nat.lt_or_eq_of_le hk with h | h
          · have := runL_all p l k c h HC.out
            rw [hb] at this
            cases this
          · exact h.symm
        have HK := Lib.hid hk'
        clear hk'
        rcases hfn with rfl | rfl | rfl
        all_goals
          go_wp2_with fail
          refine (HP.out c _).mono ?_
          rintro r w2 ⟨rfl, rfl⟩
          rw [hb]
          go_wp2_with fail
          go_ret
          exact ⟨ret_int (by have := HK.out; omega), rfl⟩
      · have hk' : k + 1 ≤ runL p l := by
          rcases Nat.lt_or_eq_of_le hk with h | h
          · exact h
          · have := runL_end p l c (by rw [← h]; exact HC.out)
            rw [hb] at this
            cases this
        have HK := Lib.hid hk'
        clear hk'
        rcases hfn with rfl | rfl | rfl
        all_goals
          go_wp2_with fail
          refine (HP.out c _).mono ?_
          rintro r w2 ⟨rfl, rfl⟩
          rw [hb]
          go_wp2_with fail
          refine ⟨⟨k + 1, HK.out, by simp, trivial⟩, ?_⟩
          simp [intOf]
          omega
    · have hk' : runL p l = k := by omega
      have HK := Lib.hid hk'
      clear hk'
      go_wp2_with fail
      go_ret
      exact ⟨ret_int (by have := HK.out; omega), rfl⟩

theorem indexByte_pos (l : List UInt8) (c : UInt8) : (0 ≤ Lib.indexByte l c) ↔ l.contains c = true := by
  induction l with
  | nil => simp [Lib.indexByte]
  | cons b r ih =>
    have := Lib.indexByte_ge r c
    rw [Lib.indexByte]
    by_cases hb : b = c
    · simp [hb]
    · have h1 : (b == c) = false := by simp [hb]
      have h2 : (c == b) = false := by simp [Ne.symm hb]
      rw [h1]
      simp only [Bool.false_eq_true, if_false, List.contains_cons, h2, Bool.false_or]
      rw [← ih]
      split
      · rename_i he
        simp at he
        omega
      · rename_i he
        simp at he
        omega
theorem u8_back (c : UInt8) : (Int.toNat (c.toNat : Int)).toUInt8 = c := by simp

set_option maxHeartbeats 400000 in
set_option maxRecDepth 100000 in
theorem wordFn_any (c : UInt8) (w : World) : Calls Tryz.prog 155 #[.int .u8 c.toNat] w fun e w' => e = .returned (.bool (wrdB c)) ∧ w = w' := by
  have hW : wrdB c = (letB c || digB c) := rfl
  go_enter Tryz.func155, Tryz.ntmps155
  go_wp2_with fail
  refine (letter_any c _).mono ?_
  rintro r w2 ⟨rfl, rfl⟩
  rcases hb : letB c with _ | _
  · go_wp2_with fail
    refine (digit_any c _).mono ?_
    rintro r w2 ⟨rfl, rfl⟩
    go_wp2_with fail
    go_ret
    exact ⟨ret_bool (by rw [hW, hb]; simp), rfl⟩
  · go_wp2_with fail
    go_ret
    exact ⟨ret_bool (by rw [hW, hb]; simp), rfl⟩

set_option maxHeartbeats 400000 in
set_option maxRecDepth 100000 in
theorem binFn_any (c : UInt8) (w : World) : Calls Tryz.prog 160 #[.int .u8 c.toNat] w fun e w' => e = .returned (.bool (binB c)) ∧ w = w' := by
  have h1 : (0 ≤ Lib.indexByte (str binL).data.toList c) ↔ binL.contains c = true := indexByte_pos binL c
  go_enter Tryz.func160, Tryz.ntmps160
  go_wp2_with fail
  refine (Tryz.strings_IndexByte (str binL) _ _).mono ?_
  rw [u8_back]
  rintro r w2 ⟨rfl, rfl⟩
  go_wp2_with fail
  go_ret
  refine ⟨ret_bool ?_, rfl⟩
  rw [Bool.eq_iff_iff]
  simp [binB]

set_option maxHeartbeats 400000 in
set_option maxRecDepth 100000 in
theorem scWord_any (l : List UInt8) (hl : l.length ≤ 100000) (w : World) : Calls Tryz.prog 108 #[.string (str l)] w fun e w' => e = .returned (.int .i64 (wrdL l)) ∧ w = w' := by
  have hsz := str_size l
  have hR := run_any 155 (.inl rfl) wrdB wordFn_any l hl
  have HR := Lib.hid hR
  clear hR
  rcases hl0 : l[0]? with _ | c
  · have hle : l = [] := by
      cases l with
      | nil => rfl
      | cons c r => simp at hl0
    have hne : (str l).toList.isEmpty = true := by rw [str_toList, hle]; rfl
    have hW : wrdL l = 0 := by rw [hle]; rfl
    have HW := Lib.hid hW
    clear hle hl0 hW
    go_enter Tryz.func108, Tryz.ntmps108
    go_wp2_with fail
    go_ret
    exact ⟨ret_int (by rw [HW.out]; rfl), rfl⟩
  · have hlt : 0 < l.length := (List.getElem?_eq_some_iff.1 hl0).1
    have hne : (str l).toList.isEmpty = false := by
      rw [str_toList]
      cases l with
      | nil => simp at hlt
      | cons c r => rfl
    have hg := str_getE hl0 (by omega)
    have hW : wrdL l = if letB c then runL wrdB l else 0 := by
      cases l with
      | nil => simp at hlt
      | cons d r =>
        simp at hl0
        subst hl0
        rfl
    have HW := Lib.hid hW
    clear hl0 hW
    go_enter Tryz.func108, Tryz.ntmps108
    go_wp2_with fail
    refine (letter_any c _).mono ?_
    rintro r w2 ⟨rfl, rfl⟩
    rcases hb : letB c with _ | _
    · go_wp2_with fail
      go_ret
      exact ⟨ret_int (by rw [HW.out, hb]; rfl), rfl⟩
    · go_wp2_with fail
      refine (HR.out _).mono ?_
      rintro r w2 ⟨rfl, rfl⟩
      go_wp2_with fail
      go_ret
      exact ⟨ret_int (by rw [HW.out, hb]; rfl), rfl⟩

set_option maxHeartbeats 400000 in
set_option maxRecDepth 100000 in
theorem scBin_any (l : List UInt8) (hl : l.length ≤ 100000) (w : World) : Calls Tryz.prog 116 #[.string (str l)] w fun e w' => e = .returned (.int .i64 (min 2 (runL binB l) : Nat)) ∧ w = w' := by
  go_enter Tryz.func116, Tryz.ntmps116
  go_wp2_with fail
  refine (run_any 160 (.inr (.inr rfl)) binB binFn_any l hl _).mono ?_
  rintro r w2 ⟨rfl, rfl⟩
  go_wp2_with fail
  go_ret
  exact ⟨ret_int (by omega), rfl⟩
end Go.Proofs.YtpjpmlhnhcmacaaGreatDoor
