/- scan.text, walked. -/
import Derived.Test.YtpjpmlhnhcmacaaGreatDoorScB
namespace Go.Proofs.YtpjpmlhnhcmacaaGreatDoor
open Go.RowKit

/-- What a text in quotes stands for, and how far it goes; behind its first quote. -/
def txtL : List UInt8 → Option (List UInt8 × Nat)
  | [] => none
  | [c] => if c = 39 then some ([], 1) else none
  | c :: d :: r => if c = 39 then (if d = 39 then (txtL r).map fun x => (39 :: x.1, x.2 + 2) else some ([], 1)) else (txtL (d :: r)).map fun x => (c :: x.1, x.2 + 1)

theorem txtL_plain {c : UInt8} (r : List UInt8) (h : c ≠ 39) : txtL (c :: r) = (txtL r).map fun x => (c :: x.1, x.2 + 1) := by
  cases r with
  | nil => simp [txtL, h]
  | cons d r => rw [txtL, if_neg h]
theorem txtL_end {r : List UInt8} (h : r[0]? ≠ some 39) : txtL (39 :: r) = some ([], 1) := by
  cases r with
  | nil => rfl
  | cons d r =>
    rw [txtL, if_pos rfl, if_neg]
    rintro rfl
    exact h rfl
theorem txtL_two (r : List UInt8) : txtL (39 :: 39 :: r) = (txtL r).map fun x => (39 :: x.1, x.2 + 2) := by rw [txtL, if_pos rfl, if_pos rfl]
theorem txtL_le : ∀ (n : Nat) (l : List UInt8), l.length ≤ n → ∀ {t : List UInt8} {k : Nat}, txtL l = some (t, k) → 1 ≤ k ∧ k ≤ l.length
  | 0, l, hl, t, k, h => by
    cases l with
    | nil => cases h
    | cons c r => simp at hl
  | n + 1, l, hl, t, k, h => by
    cases l with
    | nil => cases h
    | cons c r =>
      by_cases hc : c = 39
      · subst hc
        by_cases h0 : r[0]? = some 39
        · cases r with
          | nil => simp at h0
          | cons d q =>
            simp at h0
            subst h0
            rw [txtL_two] at h
            rcases hx : txtL q with _ | ⟨t', k'⟩
            · rw [hx] at h; cases h
            · rw [hx] at h
              simp at h
              have := txtL_le n q (by simp at hl; omega) hx
              simp
              omega
        · rw [txtL_end h0] at h
          simp at h
          simp
          omega
      · rw [txtL_plain r hc] at h
        rcases hx : txtL r with _ | ⟨t', k'⟩
        · rw [hx] at h; cases h
        · rw [hx] at h
          simp at h
          have := txtL_le n r (by simp at hl; omega) hx
          simp
          omega

/-- What scan.text hands back, of a text that begins with a quote. -/
def txtR (l : List UInt8) : List UInt8 × Nat := match txtL (l.drop 1) with
  | some (t, k) => (t, k + 1)
  | none => ([], 0)

structure TxSt (B b : Nat) (l : List UInt8) (i : Nat) (out : List UInt8) (w wr : World) : Prop where
  le : i ≤ l.length
  pos : 1 ≤ i
  eq : txtL (l.drop 1) = (txtL (l.drop i)).map fun x => (out ++ x.1, x.2 + (i - 1))
  len : out.length ≤ l.length
  olen : out.length ≤ i
  bld : Lib.IsBuilder 147 5 B b (Lib.byteCells out) wr
  mod : Mod Nil w wr
  big : B ≤ wr.heap.size

theorem byteCells_snoc (out : List UInt8) (c : UInt8) : Lib.byteCells out ++ [.int .u8 (c.toNat : Int)] = Lib.byteCells (out ++ [c]) := by
  simp [Lib.byteCells]
theorem byteCells_length (out : List UInt8) : (Lib.byteCells out).length = out.length := by simp [Lib.byteCells]

theorem TxSt.one {B b : Nat} {l : List UInt8} {i : Nat} {out : List UInt8} {w wr wr' : World} (h : TxSt B b l i out w wr) (hB : w.heap.size ≤ B) {c : UInt8} (hc : l[i]? = some c) (hne : c ≠ 39)
    (hb : Lib.BuilderAt 147 5 B b (.pointer (some ⟨b, 0, none⟩)) (Lib.byteCells out ++ [.int .u8 (c.toNat : Int)]) wr') (hm : Below B wr wr') : TxSt B b l (i + 1) (out ++ [c]) w wr' := by
  have hlt := (List.getElem?_eq_some_iff.1 hc).1
  have hd : l.drop i = c :: l.drop (i + 1) := by rw [List.drop_eq_getElem_cons hlt, (List.getElem?_eq_some_iff.1 hc).2]
  refine ⟨hlt, by omega, ?_, by have := h.olen; simp; omega, by have := h.olen; simp; omega, .inr (by rw [← byteCells_snoc]; exact hb), ?_, Nat.le_trans h.big hm.size⟩
  · rw [h.eq, hd, txtL_plain _ hne, Option.map_map]
    congr 1
    funext x
    have := h.pos
    simp
    omega
  · exact ⟨hm.os.trans h.mod.os, hm.tape.trans h.mod.tape, hm.output.trans h.mod.output, Nat.le_trans h.mod.size hm.size, fun k hk hn => (hm.block k (by omega)).trans (h.mod.block k hk hn)⟩
theorem TxSt.two {B b : Nat} {l : List UInt8} {i : Nat} {out : List UInt8} {w wr wr' : World} (h : TxSt B b l i out w wr) (hB : w.heap.size ≤ B) (hc : l[i]? = some 39) (hc2 : l[i + 1]? = some 39)
    (hb : Lib.BuilderAt 147 5 B b (.pointer (some ⟨b, 0, none⟩)) (Lib.byteCells out ++ [.int .u8 ((39 : UInt8).toNat : Int)]) wr') (hm : Below B wr wr') : TxSt B b l (i + 2) (out ++ [39]) w wr' := by
  have hlt := (List.getElem?_eq_some_iff.1 hc).1
  have hlt2 := (List.getElem?_eq_some_iff.1 hc2).1
  have hd : l.drop i = 39 :: 39 :: l.drop (i + 2) := by rw [List.drop_eq_getElem_cons hlt, (List.getElem?_eq_some_iff.1 hc).2, List.drop_eq_getElem_cons hlt2, (List.getElem?_eq_some_iff.1 hc2).2]
  refine ⟨hlt2, by omega, ?_, by have := h.olen; simp; omega, by have := h.olen; simp; omega, .inr (by rw [← byteCells_snoc]; exact hb), ?_, Nat.le_trans h.big hm.size⟩
  · rw [h.eq, hd, txtL_two, Option.map_map]
    congr 1
    funext x
    have := h.pos
    simp
    omega
  · exact ⟨hm.os.trans h.mod.os, hm.tape.trans h.mod.tape, hm.output.trans h.mod.output, Nat.le_trans h.mod.size hm.size, fun k hk hn => (hm.block k (by omega)).trans (h.mod.block k hk hn)⟩
theorem TxSt.end_ {B b : Nat} {l : List UInt8} {i : Nat} {out : List UInt8} {w wr : World} (h : TxSt B b l i out w wr) (hc : l[i]? = some 39) (hc2 : l[i + 1]? ≠ some 39) : txtR l = (out, i + 1) := by
  have hlt := (List.getElem?_eq_some_iff.1 hc).1
  have hd : l.drop i = 39 :: l.drop (i + 1) := by rw [List.drop_eq_getElem_cons hlt, (List.getElem?_eq_some_iff.1 hc).2]
  unfold txtR
  rw [h.eq, hd, txtL_end (by rw [List.getElem?_drop]; exact hc2)]
  have := h.pos
  simp
  omega
theorem TxSt.none {B b : Nat} {l : List UInt8} {i : Nat} {out : List UInt8} {w wr : World} (h : TxSt B b l i out w wr) (hi : ¬ i < l.length) : txtR l = ([], 0) := by
  have hd : l.drop i = [] := List.drop_eq_nil_of_le (by omega)
  unfold txtR
  rw [h.eq, hd]
  rfl

set_option maxHeartbeats 1600000 in
set_option maxRecDepth 100000 in
theorem scText_any (l : List UInt8) (hl : l.length ≤ 5000) (h1 : 1 ≤ l.length) (w : World) : Calls Tryz.prog 113 #[.string (str l)] w fun e w' => e = .returned (.tuple #[.string (str (txtR l).1), .int .i64 (txtR l).2]) ∧ Mod Nil w w' := by
  have hsz := str_size l
  have hst0 : TxSt w.heap.size w.heap.size l 1 [] w (w.alloc (.cells #[.pointer .none, .slice .none 0 0] 147)) :=
    ⟨h1, Nat.le_refl _, by cases txtL (l.drop 1) <;> simp, by simp, by simp, Lib.fresh_isBuilder _ _ _, (Mod.refl _ _).alloc _, by simp⟩
  have HST0 := Lib.hid hst0
  clear hst0 h1
  go_enter Tryz.func113, Tryz.ntmps113
  go_wp2_with fail
  go_loopw [5] (fun v wr => ∃ i out, v = .int .i64 (i : Nat) ∧ TxSt w.heap.size w.heap.size l i out w wr) (fun v _ => l.length - (intOf v).toNat)
  case atStart => exact ⟨1, [], rfl, HST0.out⟩
  case round =>
    obtain ⟨i, out, rfl, hst⟩ := hrel
    have hpos := hst.pos
    have HST := Lib.hid hst
    clear hst
    by_cases hi : i < l.length
    · obtain ⟨c, hc⟩ : ∃ c, l[i]? = some c := ⟨_, List.getElem?_eq_getElem hi⟩
      have hg := str_getE hc (by omega)
      have HC := Lib.hid hc
      have HWB := Lib.hid (fun c => writeByte_any w.heap.size w.heap.size (Lib.byteCells out) c wr HST.out.bld (by rw [byteCells_length]; have := HST.out.len; omega) HST.out.big)
      clear hc
      by_cases h39 : c = 39
      · subst h39
        have hmb : ∀ w2, Below w.heap.size wr w2 → Mod Nil w w2 := fun w2 hm =>
          ⟨hm.os.trans HST.out.mod.os, hm.tape.trans HST.out.mod.tape, hm.output.trans HST.out.mod.output, Nat.le_trans HST.out.mod.size hm.size, fun k hk hn => (hm.block k hk).trans (HST.out.mod.block k hk hn)⟩
        have HMB := Lib.hid hmb
        clear hmb
        by_cases hlast : i + 1 = l.length
        · have HX := Lib.hid (HST.out.end_ HC.out (by rw [List.getElem?_eq_none_iff.2 (by omega)]; exact fun h => by cases h))
          have hl1 : ((i : Int) + 1 == (l.length : Int)) = true := by simp; omega
          go_wp2_with fail
          refine (Tryz.Builder_String_any w.heap.size w.heap.size out wr HST.out.bld HST.out.mod.size).mono ?_
          rintro e w2 ⟨rfl, hm2⟩
          have HM2 := Lib.hid (HMB.out _ hm2)
          clear hm2
          go_wp2_with fail
          go_ret2
          rw [HX.out]
          exact ⟨rfl, HM2.out⟩
        · have hl1 : ((i : Int) + 1 == (l.length : Int)) = false := by simp; omega
          obtain ⟨d, hd⟩ : ∃ d, l[i + 1]? = some d := ⟨_, List.getElem?_eq_getElem (by omega)⟩
          have hg2 := str_getE hd (by omega)
          have HD := Lib.hid hd
          clear hd
          by_cases h39 : d = 39
          · subst h39
            go_wp2_with fail
            refine (HWB.out _).mono ?_
            rintro e w2 ⟨rfl, hb2, hm2⟩
            have HX := Lib.hid (HST.out.two (Nat.le_refl _) HC.out HD.out hb2 hm2)
            clear hb2 hm2
            go_wp2_with fail
            refine ⟨⟨i + 2, _, ?_, HX.out⟩, ?_⟩
            · simp <;> omega
            · simp [intOf]
              omega
          · have hne2 : ((d.toNat : Int) == 39) = false := ne_of_u8 h39
            have hne3 : ((d.toNat : Int) != 39) = true := by rw [bne, hne2]; rfl
            have HX := Lib.hid (HST.out.end_ HC.out (by rw [HD.out]; exact fun h => h39 (Option.some.inj h)))
            clear h39
            go_wp2_with fail
            refine (Tryz.Builder_String_any w.heap.size w.heap.size out wr HST.out.bld HST.out.mod.size).mono ?_
            rintro e w2 ⟨rfl, hm2⟩
            have HM2 := Lib.hid (HMB.out _ hm2)
            clear hm2
            go_wp2_with fail
            go_ret2
            rw [HX.out]
            exact ⟨rfl, HM2.out⟩
      · have hne2 : ((c.toNat : Int) == 39) = false := ne_of_u8 h39
        have hne3 : ((c.toNat : Int) != 39) = true := by rw [bne, hne2]; rfl
        have HNE := Lib.hid h39
        clear h39
        go_wp2_with fail
        refine (HWB.out _).mono ?_
        rintro e w2 ⟨rfl, hb2, hm2⟩
        have HX := Lib.hid (HST.out.one (Nat.le_refl _) HC.out HNE.out hb2 hm2)
        clear hb2 hm2
        go_wp2_with fail
        refine ⟨⟨i + 1, _, ?_, HX.out⟩, ?_⟩
        · simp <;> omega
        · simp [intOf]
          omega
    · have HX := Lib.hid (HST.out.none hi)
      go_wp2_with fail
      go_ret2
      rw [HX.out]
      exact ⟨rfl, HST.out.mod⟩
end Go.Proofs.YtpjpmlhnhcmacaaGreatDoor
