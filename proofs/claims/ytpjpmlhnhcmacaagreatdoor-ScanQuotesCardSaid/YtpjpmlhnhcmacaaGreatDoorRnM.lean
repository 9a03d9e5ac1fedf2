/- The document's Kind, walked. -/
import Derived.Test.YtpjpmlhnhcmacaaGreatDoorRnL
namespace Go.Proofs.YtpjpmlhnhcmacaaGreatDoor
open Go.RowKit

def binS : List (List UInt8) := binL.map fun c => [c]
theorem binS_contains (c : UInt8) : binS.contains [c] = binB c := by
  unfold binB
  rw [Bool.eq_iff_iff, List.contains_iff_mem, List.contains_iff_mem]
  unfold binS
  simp
theorem binS_rd (w : World) (t : TypeId) : Rd All (w.alloc (.cells (binS.map sv).toArray t)) (some ⟨w.heap.size, 0, none⟩) (binS.map sv) := fun _ =>
  ⟨_, rfl, trivial, by simp, fun j u hu => by
    have : (⟨w.heap.size, 0, none⟩ : Addr).add j = ⟨w.heap.size, j, none⟩ := by unfold Addr.add; split <;> simp_all
    rw [this, (Blk.new w t (binS.map sv).toArray).cell j]
    simpa using hu⟩
theorem all_take_succ {p : UInt8 → Bool} {l : List UInt8} {k : Nat} {c : UInt8} (hc : l[k]? = some c) : (l.take (k + 1)).all p = ((l.take k).all p && p c) := by
  rw [List.take_add_one, hc]
  simp

set_option maxHeartbeats 3200000 in
set_option maxRecDepth 100000 in
theorem r6Kind_any (l : List UInt8) (hl : l.length ≤ 5000) (w : World) : Calls Tryz.prog 39 #[.string (str l)] w fun e w' => e = .returned (.int .i64 (nmKind l)) ∧ Mod Nil w w' := by
  have hsz := str_size l
  have HD := Lib.hid (show nmKind l = if nmLower l then 1 else if nmBin l then 2 else if nmKw l then 3 else 0 from rfl)
  have HLN := Lib.hid (show nmIs l = false → nmLower l = false from fun h => by unfold nmLower; rw [h]; rfl)
  have HBN := Lib.hid (show nmBin l = ((decide (l.length = 1) || decide (l.length = 2)) && l.all binB) from rfl)
  have HKW := Lib.hid (fun w => r6Keywords_any l hl w)
  have HLEN := Lib.hid (show (0 < (kwL l).length ↔ nmKw l = true) from by
    unfold kwL
    rcases h : nmKw l with _ | _
    · simp
    · have := (kw_parts h).2.1
      simp
      omega)
  have HIS := Lib.hid (fun w => r6Is_any l (by omega) w)
  have htail : ∀ (w2 : World), nmLower l = false → nmBin l = false → Mod Nil w w2 → True := fun _ _ _ _ => trivial
  clear htail
  go_enter Tryz.func39, Tryz.ntmps39
  go_wp2_with fail
  refine (HIS.out _).mono ?_
  rintro e w2 ⟨rfl, rfl⟩
  rcases his : nmIs l with _ | _
  -- ARMS
  -- ARMS
  -- ARMS
  -- ARMS
  · have HLOW := Lib.hid (HLN.out his)
    clear his
    by_cases h12 : l.length = 1 ∨ l.length = 2
    · have hi : ((l.length : Int) == 1) = true ∨ (((l.length : Int) == 1) = false ∧ ((l.length : Int) == 2) = true) := by simp; omega
      have hle2 : l.length ≤ 2 := by omega
      have HBB := Lib.hid (show nmBin l = l.all binB by rw [HBN.out]; rcases h12 with h | h <;> simp [h])
      clear h12
      rcases hi with hi1 | ⟨hi1, hi2⟩
      all_goals
        go_wp2_with fail
        go_loopw [3, 4] (fun ov iv wr => ∃ k : Nat, iv = .int .i64 k ∧ k ≤ l.length ∧ ov = .bool ((l.take k).all binB) ∧ Mod Nil w wr) (fun _ iv _ => l.length - (intOf iv).toNat)
        case atStart => exact ⟨0, rfl, Nat.zero_le _, by simp, Mod.refl _ _⟩
        case round =>
          obtain ⟨k, rfl, hk, rfl, hm⟩ := hrel
          have HM := Lib.hid hm
          clear hm
          by_cases hlt : k < l.length
          · obtain ⟨c, hc⟩ : ∃ c, l[k]? = some c := ⟨_, List.getElem?_eq_getElem hlt⟩
            have HNX := Lib.hid (all_take_succ (p := binB) hc)
            have he : (str l).extract k (k + 1) = str [c] := by
              rw [str_extract, show k + 1 - k = 1 by omega, List.drop_eq_getElem_cons hlt, (List.getElem?_eq_some_iff.1 hc).2]
              simp
            clear hc
            rcases hok : (l.take k).all binB with _ | _
            · rw [hok] at HNX
              clear hok
              go_wp2_with fail
              refine ⟨⟨k + 1, by simp, hlt, by rw [HNX.out]; rfl, HM.out⟩, ?_⟩
              simp [intOf]
              omega
            · rw [hok] at HNX
              clear hok
              have hin := r6In_any (some ⟨wr.heap.size, 0, none⟩) 12 12 binS [c] (wr.alloc (.cells (binS.map sv).toArray 9)) rfl (by omega) (binS_rd wr _)
              rw [binS_contains] at hin
              have HIN := Lib.hid hin
              clear hin
              go_wp2_with fail
              refine HIN.out.mono ?_
              rintro e w3 ⟨rfl, rfl⟩
              go_wp2_with fail
              refine ⟨⟨k + 1, by simp, hlt, by rw [HNX.out]; rfl, HM.out.alloc _⟩, ?_⟩
              simp [intOf]
              omega
          · obtain rfl : k = l.length := by omega
            rw [List.take_length]
            rcases hall : l.all binB with _ | _
            · have HBF := Lib.hid (show nmBin l = false by rw [HBB.out, hall])
              clear hall
              go_wp2_with fail
              refine (HKW.out _).mono ?_
              rintro e w4 ⟨v, rfl, hown, hm⟩
              obtain ⟨A, c, rfl, _, _⟩ := own_slice hown
              have HM4 := Lib.hid (HM.out.trans hm)
              clear hown hm
              rcases hkw : nmKw l with _ | _
              · have hkl : (kwL l).length = 0 := by
                  have := HLEN.out
                  rw [hkw] at this
                  simp at this
                  simp [this]
                rw [hkl]
                go_wp2_with fail
                go_ret
                exact ⟨ret_int (by rw [HD.out, HLOW.out, HBF.out, hkw]; rfl), HM4.out⟩
              · have hkl : 0 < (kwL l).length := HLEN.out.2 hkw
                generalize (kwL l).length = kn at hkl ⊢
                go_wp2_with fail
                go_ret
                exact ⟨ret_int (by rw [HD.out, HLOW.out, HBF.out, hkw]; rfl), HM4.out⟩
            · have HBT := Lib.hid (show nmBin l = true by rw [HBB.out, hall])
              clear hall
              go_wp2_with fail
              go_ret
              exact ⟨ret_int (by rw [HD.out, HLOW.out, HBT.out]; rfl), HM.out⟩
    · have hi1 : ((l.length : Int) == 1) = false := by simp; omega
      have hi2 : ((l.length : Int) == 2) = false := by simp; omega
      have HBF := Lib.hid (show nmBin l = false by rw [HBN.out]; have h1 : l.length ≠ 1 := fun h => h12 (.inl h); have h2 : l.length ≠ 2 := fun h => h12 (.inr h); simp [h1, h2])
      have HM := Lib.hid (Mod.refl Nil w)
      clear h12
      go_wp2_with fail
      refine (HKW.out _).mono ?_
      rintro e w4 ⟨v, rfl, hown, hm⟩
      obtain ⟨A, c, rfl, _, _⟩ := own_slice hown
      have HM4 := Lib.hid (HM.out.trans hm)
      clear hown hm
      rcases hkw : nmKw l with _ | _
      · have hkl : (kwL l).length = 0 := by
          have := HLEN.out
          rw [hkw] at this
          simp at this
          simp [this]
        rw [hkl]
        go_wp2_with fail
        go_ret
        exact ⟨ret_int (by rw [HD.out, HLOW.out, HBF.out, hkw]; rfl), HM4.out⟩
      · have hkl : 0 < (kwL l).length := HLEN.out.2 hkw
        generalize (kwL l).length = kn at hkl ⊢
        go_wp2_with fail
        go_ret
        exact ⟨ret_int (by rw [HD.out, HLOW.out, HBF.out, hkw]; rfl), HM4.out⟩
  · obtain ⟨c0, r0, hp0⟩ : ∃ c0 r0, l = c0 :: r0 := by
      cases l with
      | nil => simp [nmIs] at his
      | cons c r => exact ⟨c, r, rfl⟩
    have hpp : 0 < l.length := by rw [hp0]; simp
    have hg0 := str_getE (l := l) (k := 0) (c := c0) (by rw [hp0]; rfl) (by omega)
    have HLO := Lib.hid (show nmLower l = smallB c0 by rw [hp0, nmLower_eq, ← hp0, his]; rfl)
    clear his hp0
    go_wp2_with fail
    refine (r6Small_any c0 _).mono ?_
    rintro e w3 ⟨rfl, rfl⟩
    rcases hsm : smallB c0 with _ | _
    · have HLOW := Lib.hid (show nmLower l = false by rw [HLO.out, hsm])
      clear hsm
      by_cases h12 : l.length = 1 ∨ l.length = 2
      · have hi : ((l.length : Int) == 1) = true ∨ (((l.length : Int) == 1) = false ∧ ((l.length : Int) == 2) = true) := by simp; omega
        have hle2 : l.length ≤ 2 := by omega
        have HBB := Lib.hid (show nmBin l = l.all binB by rw [HBN.out]; rcases h12 with h | h <;> simp [h])
        clear h12
        rcases hi with hi1 | ⟨hi1, hi2⟩
        all_goals
          go_wp2_with fail
          go_loopw [3, 4] (fun ov iv wr => ∃ k : Nat, iv = .int .i64 k ∧ k ≤ l.length ∧ ov = .bool ((l.take k).all binB) ∧ Mod Nil w wr) (fun _ iv _ => l.length - (intOf iv).toNat)
          case atStart => exact ⟨0, rfl, Nat.zero_le _, by simp, Mod.refl _ _⟩
          case round =>
            obtain ⟨k, rfl, hk, rfl, hm⟩ := hrel
            have HM := Lib.hid hm
            clear hm
            by_cases hlt : k < l.length
            · obtain ⟨c, hc⟩ : ∃ c, l[k]? = some c := ⟨_, List.getElem?_eq_getElem hlt⟩
              have HNX := Lib.hid (all_take_succ (p := binB) hc)
              have he : (str l).extract k (k + 1) = str [c] := by
                rw [str_extract, show k + 1 - k = 1 by omega, List.drop_eq_getElem_cons hlt, (List.getElem?_eq_some_iff.1 hc).2]
                simp
              clear hc
              rcases hok : (l.take k).all binB with _ | _
              · rw [hok] at HNX
                clear hok
                go_wp2_with fail
                refine ⟨⟨k + 1, by simp, hlt, by rw [HNX.out]; rfl, HM.out⟩, ?_⟩
                simp [intOf]
                omega
              · rw [hok] at HNX
                clear hok
                have hin := r6In_any (some ⟨wr.heap.size, 0, none⟩) 12 12 binS [c] (wr.alloc (.cells (binS.map sv).toArray 9)) rfl (by omega) (binS_rd wr _)
                rw [binS_contains] at hin
                have HIN := Lib.hid hin
                clear hin
                go_wp2_with fail
                refine HIN.out.mono ?_
                rintro e w3 ⟨rfl, rfl⟩
                go_wp2_with fail
                refine ⟨⟨k + 1, by simp, hlt, by rw [HNX.out]; rfl, HM.out.alloc _⟩, ?_⟩
                simp [intOf]
                omega
            · obtain rfl : k = l.length := by omega
              rw [List.take_length]
              rcases hall : l.all binB with _ | _
              · have HBF := Lib.hid (show nmBin l = false by rw [HBB.out, hall])
                clear hall
                go_wp2_with fail
                refine (HKW.out _).mono ?_
                rintro e w4 ⟨v, rfl, hown, hm⟩
                obtain ⟨A, c, rfl, _, _⟩ := own_slice hown
                have HM4 := Lib.hid (HM.out.trans hm)
                clear hown hm
                rcases hkw : nmKw l with _ | _
                · have hkl : (kwL l).length = 0 := by
                    have := HLEN.out
                    rw [hkw] at this
                    simp at this
                    simp [this]
                  rw [hkl]
                  go_wp2_with fail
                  go_ret
                  exact ⟨ret_int (by rw [HD.out, HLOW.out, HBF.out, hkw]; rfl), HM4.out⟩
                · have hkl : 0 < (kwL l).length := HLEN.out.2 hkw
                  generalize (kwL l).length = kn at hkl ⊢
                  go_wp2_with fail
                  go_ret
                  exact ⟨ret_int (by rw [HD.out, HLOW.out, HBF.out, hkw]; rfl), HM4.out⟩
              · have HBT := Lib.hid (show nmBin l = true by rw [HBB.out, hall])
                clear hall
                go_wp2_with fail
                go_ret
                exact ⟨ret_int (by rw [HD.out, HLOW.out, HBT.out]; rfl), HM.out⟩
      · have hi1 : ((l.length : Int) == 1) = false := by simp; omega
        have hi2 : ((l.length : Int) == 2) = false := by simp; omega
        have HBF := Lib.hid (show nmBin l = false by rw [HBN.out]; have h1 : l.length ≠ 1 := fun h => h12 (.inl h); have h2 : l.length ≠ 2 := fun h => h12 (.inr h); simp [h1, h2])
        have HM := Lib.hid (Mod.refl Nil w)
        clear h12
        go_wp2_with fail
        refine (HKW.out _).mono ?_
        rintro e w4 ⟨v, rfl, hown, hm⟩
        obtain ⟨A, c, rfl, _, _⟩ := own_slice hown
        have HM4 := Lib.hid (HM.out.trans hm)
        clear hown hm
        rcases hkw : nmKw l with _ | _
        · have hkl : (kwL l).length = 0 := by
            have := HLEN.out
            rw [hkw] at this
            simp at this
            simp [this]
          rw [hkl]
          go_wp2_with fail
          go_ret
          exact ⟨ret_int (by rw [HD.out, HLOW.out, HBF.out, hkw]; rfl), HM4.out⟩
        · have hkl : 0 < (kwL l).length := HLEN.out.2 hkw
          generalize (kwL l).length = kn at hkl ⊢
          go_wp2_with fail
          go_ret
          exact ⟨ret_int (by rw [HD.out, HLOW.out, HBF.out, hkw]; rfl), HM4.out⟩
    · have HLOW := Lib.hid (show nmLower l = true by rw [HLO.out, hsm])
      clear hsm
      go_wp2_with fail
      go_ret
      exact ⟨ret_int (by rw [HD.out, HLOW.out]; rfl), Mod.refl _ _⟩
end Go.Proofs.YtpjpmlhnhcmacaaGreatDoor
