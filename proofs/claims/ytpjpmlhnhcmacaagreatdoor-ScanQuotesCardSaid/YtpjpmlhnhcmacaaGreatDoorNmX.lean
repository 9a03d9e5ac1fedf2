/- name.Is, name.lower, walked, for any text. -/
import Derived.Test.YtpjpmlhnhcmacaaGreatDoorScR
import Derived.Lib.OthersKept
import Derived.Laws.RangeAny
namespace Go.Proofs.YtpjpmlhnhcmacaaGreatDoor
open Go.RowKit

theorem Mod.iterAt {F : Nat → Prop} {a w : World} (h : Mod F a w) {k : Nat} (hk : F k ∨ a.heap.size ≤ k) (s : ByteArray) (pos : Nat) : Mod F a (w.iterAt k s pos) :=
  ⟨h.os, h.tape, h.output, by rw [Lib.iterAt_size]; exact h.size, fun i hi hn => (Lib.iterAt_other w k i s pos (by
    rintro rfl
    rcases hk with hk | hk
    · exact hn hk
    · omega)).trans (h.block i hi hn)⟩

theorem iter_pos {w : World} {k : Nat} {s : ByteArray} {p : Nat} (h : w.heap[k]? = some (.stringIter s p)) : w.iterPos k = p := by simp [World.iterPos, h]

/-- A rune that a name's place does not take. -/
def badR (r pos : Nat) : Bool := !smallR r && !largeR r && (decide (pos = 0) || !digR r)

structure IsSt (w : World) (l : List UInt8) (pos : Nat) (wr : World) : Prop where
  le : pos ≤ l.length
  it : wr.heap[w.heap.size]? = some (.stringIter (str l) pos)
  mod : Mod Nil w wr
  ok : ∀ i c, i < pos → l[i]? = some c → badR c.toNat i = false

theorem badR_word {c : UInt8} {i : Nat} (h : badR c.toNat i = false) : wrdB c = true ∧ (i = 0 → letB c = true) := by
  unfold badR at h
  unfold wrdB letB smallB largeB digB
  unfold smallR largeR digR at h
  refine ⟨?_, fun hi => ?_⟩
  · simp at h ⊢
    omega
  · subst hi
    simp at h ⊢
    omega
theorem nmIs_bad {l : List UInt8} {i : Nat} {c : UInt8} (hc : l[i]? = some c) (h : badR c.toNat i = true) : nmIs l = false := by
  rw [Bool.eq_false_iff]
  intro hn
  unfold nmIs at hn
  cases l with
  | nil => simp at hc
  | cons d r =>
    simp only [Bool.and_eq_true] at hn
    obtain ⟨⟨h1, h2⟩, _⟩ := hn
    have h3 : wrdB c = true := List.all_eq_true.1 h2 c (List.mem_of_getElem? hc)
    unfold badR smallR largeR digR at h
    unfold wrdB letB smallB largeB digB at h3
    cases i with
    | zero =>
      simp at hc
      subst hc
      unfold letB smallB largeB at h1
      simp at h h1
      omega
    | succ i =>
      simp at h h3
      omega
theorem nmIs_ok {l : List UInt8} (h : ∀ i c, i < l.length → l[i]? = some c → badR c.toNat i = false) : nmIs l = (decide (1 ≤ l.length) && decide (l.length ≤ 40)) := by
  unfold nmIs
  cases l with
  | nil => rfl
  | cons d r =>
    have h1 : letB d = true := (badR_word (h 0 d (by simp) rfl)).2 rfl
    have h2 : (d :: r).all wrdB = true := by
      rw [List.all_eq_true]
      intro c hc
      obtain ⟨i, hi⟩ := List.getElem?_of_mem hc
      exact (badR_word (h i c (List.getElem?_eq_some_iff.1 hi).1 hi)).1
    simp only [h1, h2, Bool.true_and]
    simp

set_option maxHeartbeats 1600000 in
set_option maxRecDepth 100000 in
theorem nmIs_any (l : List UInt8) (hl : l.length ≤ 100000) (w : World) : Calls Tryz.prog 98 #[.string (str l)] w fun e w' => e = .returned (.bool (nmIs l)) ∧ Mod Nil w w' := by
  have hsz := str_size l
  go_enter Tryz.func98, Tryz.ntmps98
  go_wp2_with fail
  go_loopw [3] (fun _ wr => ∃ pos, IsSt w l pos wr) (fun _ wr => l.length - wr.iterPos w.heap.size)
  case atStart => exact ⟨0, Nat.zero_le _, World.iter_heap w (str l) 0, (Mod.refl _ _).alloc _, fun i c hi => absurd hi (by omega)⟩
  case round =>
    obtain ⟨pos, hst⟩ := hrel
    have hpos := iter_pos hst.it
    have HST := Lib.hid hst
    by_cases hp : pos < l.length
    · obtain ⟨c, hc⟩ : ∃ c, l[pos]? = some c := ⟨_, List.getElem?_eq_getElem hp⟩
      obtain ⟨r, wd, hnx, hr, hrc⟩ : ∃ r wd : Nat, (∀ ty, (Instr.next (.pointer (some ⟨w.heap.size, 0, none⟩)) true ty).run Tryz.prog wr = .ok (.tuple #[.bool true, .int .i64 pos, .int .i32 r]) (wr.iterAt w.heap.size (str l) (pos + wd))) ∧ r ≤ 2147483647 ∧ ((r = c.toNat ∧ wd = 1) ∨ (128 ≤ c.toNat ∧ 128 ≤ r)) := by
        have hg := str_getE hc (by omega)
        by_cases h128 : c.toNat < 128
        · have := c.toNat_lt
          refine ⟨c.toNat, 1, fun ty => ?_, by omega, .inl ⟨rfl, rfl⟩⟩
          have h1 := Lib.run_next_ascii_at (P := Tryz.prog) wr w.heap.size (str l) pos ty hst.it (by omega) (by rw [hg]; exact h128)
          rw [hg] at h1
          exact h1
        · refine ⟨_, _, fun ty => Lib.run_next_any_at wr w.heap.size (str l) pos ty hst.it (by omega), decode_le _ _, .inr ⟨by omega, (decode_high (str l) pos (by omega) (by rw [hg]; omega)).1⟩⟩
      have hbad : badR r pos = true → nmIs l = false := by
        intro h
        refine nmIs_bad hc ?_
        rcases hrc with ⟨rfl, _⟩ | ⟨h1, h2⟩
        · exact h
        · unfold badR smallR largeR digR
          simp
          omega
      obtain ⟨W1, hW1⟩ : ∃ W1, W1 = wr.iterAt w.heap.size (str l) (pos + wd) := ⟨_, rfl⟩
      have hmod : Mod Nil w W1 := by rw [hW1]; exact hst.mod.iterAt (.inr (Nat.le_refl _)) _ _
      have hgood : badR r pos = false → IsSt w l (pos + 1) W1 := by
        intro h
        rcases hrc with ⟨h1, h2⟩ | ⟨h1, h2⟩
        · refine ⟨hp, ?_, hmod, fun i d hi hd => ?_⟩
          · rw [hW1, h2]
            exact Lib.iterAt_heap _ _ _ _ _ hst.it
          · rcases Nat.lt_or_ge i pos with h | h'
            · exact hst.ok i d h hd
            · have : i = pos := by omega
              subst this
              rw [hc] at hd
              cases hd
              rw [← h1]
              exact h
        · exfalso
          unfold badR smallR largeR digR at h
          simp at h
          omega
      rw [← hW1] at hnx
      have HB := Lib.hid hbad
      have HG := Lib.hid hgood
      have HM := Lib.hid hmod
      have HBR : badR r pos = (!smallR r && !largeR r && (decide (pos = 0) || !digR r)) := rfl
      have HBH := Lib.hid HBR
      clear hst hbad hgood hmod hW1 hc hrc HBR
      go_wp2_with fail
      refine (nmSmall_any r hr _).mono ?_
      rintro e w2 ⟨rfl, rfl⟩
      rcases h1 : smallR r with _ | _
      · go_wp2_with fail
        refine (nmLarge_any r hr _).mono ?_
        rintro e w2 ⟨rfl, rfl⟩
        rcases h2 : largeR r with _ | _
        · by_cases h0 : pos = 0
          · have hb : badR r pos = true := by rw [HBH.out, h1, h2, h0]; rfl
            have HD := Lib.hid (HB.out hb)
            clear hb
            subst h0
            go_wp2_with fail
            go_ret
            exact ⟨ret_bool HD.out.symm, HM.out⟩
          · have h0' : ((pos : Int) == 0) = false := by simp [h0]
            have HBX := Lib.hid h0
            clear h0
            go_wp2_with fail
            refine (nmDigit_any r hr _).mono ?_
            rintro e w2 ⟨rfl, rfl⟩
            rcases h3 : digR r with _ | _
            · have hb : badR r pos = true := by rw [HBH.out, h1, h2, h3]; simp
              have HD := Lib.hid (HB.out hb)
              clear hb
              go_wp2_with fail
              go_ret
              exact ⟨ret_bool HD.out.symm, HM.out⟩
            · have hb : badR r pos = false := by rw [HBH.out, h1, h2, h3]; simp [HBX.out]
              have HD := Lib.hid (HG.out hb)
              clear hb
              go_wp2_with fail
              refine ⟨⟨pos + 1, HD.out⟩, ?_⟩
              rw [iter_pos HD.out.it, hpos]
              omega
        · have hb : badR r pos = false := by rw [HBH.out, h1, h2]; rfl
          have HD := Lib.hid (HG.out hb)
          clear hb
          go_wp2_with fail
          refine ⟨⟨pos + 1, HD.out⟩, ?_⟩
          rw [iter_pos HD.out.it, hpos]
          omega
      · have hb : badR r pos = false := by rw [HBH.out, h1]; rfl
        have HD := Lib.hid (HG.out hb)
        clear hb
        go_wp2_with fail
        refine ⟨⟨pos + 1, HD.out⟩, ?_⟩
        rw [iter_pos HD.out.it, hpos]
        omega
    · have hnx : ∀ ty, (Instr.next (.pointer (some ⟨w.heap.size, 0, none⟩)) true ty).run Tryz.prog wr = _ := fun ty => Lib.run_next_end_at wr w.heap.size (str l) pos ty hst.it (by omega)
      have hle := hst.le
      have heq : pos = l.length := by omega
      have HR := Lib.hid (nmIs_ok (l := l) (fun i c hi hc => hst.ok i c (by omega) hc))
      clear hst heq
      go_wp2_with fail
      · rename_i h
        go_ret
        refine ⟨ret_bool ?_, HST.out.mod⟩
        have h1 : 1 ≤ l.length := by omega
        rw [HR.out]
        simp [h1]
        omega
      · rename_i h
        go_ret
        refine ⟨ret_bool ?_, HST.out.mod⟩
        rw [HR.out]
        simp
        omega

theorem conv_u8_i32 (c : UInt8) : IntKind.i32.wrap (c.toNat : Int) = (c.toNat : Int) := by
  have := c.toNat_lt
  rw [IntKind.wrap_i32]
  omega

set_option maxHeartbeats 400000 in
set_option maxRecDepth 100000 in
theorem nmLower_any (l : List UInt8) (hl : l.length ≤ 100000) (w : World) : Calls Tryz.prog 133 #[.string (str l)] w fun e w' => e = .returned (.bool (nmLower l)) ∧ Mod Nil w w' := by
  have hsz := str_size l
  have HL : nmLower l = (nmIs l && (match l with | [] => false | c :: _ => smallB c)) := by unfold nmLower; cases l <;> rfl
  have HL := Lib.hid HL
  go_enter Tryz.func133, Tryz.ntmps133
  go_wp2_with fail
  refine (nmIs_any l hl _).mono ?_
  rintro e w2 ⟨rfl, hm⟩
  have HM := Lib.hid hm
  clear hm
  rcases hb : nmIs l with _ | _
  · go_wp2_with fail
    go_ret
    exact ⟨ret_bool (by rw [HL.out, hb]; rfl), HM.out⟩
  · obtain ⟨c, r, rfl⟩ : ∃ c r, l = c :: r := by
      cases l with
      | nil => simp [nmIs] at hb
      | cons c r => exact ⟨c, r, rfl⟩
    have hg := str_getE (l := c :: r) (k := 0) (c := c) rfl (by rw [hsz]; simp)
    have hu := u8_lt c
    have hw := conv_u8_i32 c
    have hlen : (0 : Int) < ((str (c :: r)).size : Int) := by rw [hsz]; simp
    have hlen' : 0 < (str (c :: r)).size := by rw [hsz]; simp
    have HB := Lib.hid hb
    clear hb
    go_wp2_with fail
    refine (nmSmall_any c.toNat (by omega) _).mono ?_
    rintro e w3 ⟨rfl, rfl⟩
    go_wp2_with fail
    go_ret
    exact ⟨ret_bool (by rw [HL.out, HB.out]; rfl), HM.out⟩
end Go.Proofs.YtpjpmlhnhcmacaaGreatDoor
