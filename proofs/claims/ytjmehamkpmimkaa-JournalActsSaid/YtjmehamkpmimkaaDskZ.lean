/- Contracts of disk.Disk: Write, Read. -/
import Derived.Test.YtjmehamkpmimkaaDskY
namespace Go.Proofs.Ytjmehamkpmimkaa
open Go.RowKit

theorem splice_get? {α : Type} (L : List α) (off : Nat) (cs : List α) (i : Nat) (h : off + cs.length ≤ L.length) : (splice L off cs)[i]? = if i < off then L[i]? else if i < off + cs.length then cs[i - off]? else L[i]? := by
  have hl : (L.take off).length = off := by rw [List.length_take]; omega
  unfold splice
  by_cases h1 : i < off
  · rw [if_pos h1, List.getElem?_append_left (by omega), List.getElem?_take, if_pos h1]
  · rw [if_neg h1, List.getElem?_append_right (by omega), hl]
    by_cases h2 : i < off + cs.length
    · rw [if_pos h2, List.getElem?_append_left (by omega)]
    · rw [if_neg h2, List.getElem?_append_right (by omega), List.getElem?_drop]
      congr 1
      omega

/-- A sector. -/
def sector (I : List UInt8) (n : Nat) : List UInt8 := (I.drop (64 * n)).take 64

theorem sector_get? (I : List UInt8) (n i : Nat) : (sector I n)[i]? = if i < 64 then I[64 * n + i]? else none := by
  unfold sector
  rw [List.getElem?_take, List.getElem?_drop]

theorem sector_same {I b : List UInt8} {n : Nat} (hb : b.length = 64) (h : 64 * n + 64 ≤ I.length) : sector (layB I n b) n = b := by
  apply List.ext_getElem?
  intro i
  rw [sector_get?, layB, splice_get? _ _ _ _ (by omega)]
  by_cases hi : i < 64
  · rw [if_pos hi, if_neg (by omega), if_pos (by omega)]
    congr 1
    omega
  · rw [if_neg hi, List.getElem?_eq_none (by omega)]

theorem sector_other {I b : List UInt8} {n m : Nat} (hb : b.length = 64) (h : 64 * m + 64 ≤ I.length) (hne : m ≠ n) : sector (layB I m b) n = sector I n := by
  apply List.ext_getElem?
  intro i
  rw [sector_get?, sector_get?, layB, splice_get? _ _ _ _ (by omega)]
  by_cases hi : i < 64
  · rw [if_pos hi, if_pos hi]
    by_cases h1 : 64 * n + i < 64 * m
    · rw [if_pos h1]
    · rw [if_neg h1, if_neg (by omega)]
  · rw [if_neg hi, if_neg hi]

theorem sector_length {I : List UInt8} {n : Nat} (h : 64 * n + 64 ≤ I.length) : (sector I n).length = 64 := by
  unfold sector
  rw [List.length_take, List.length_drop]
  omega

/-- What Write does: the disk, the error. -/
def DSt.write (s : DSt) (n : Int) (b : List UInt8) : DSt × Int :=
  if s.there n = true ∧ b.length = 64 then (if s.on then (s.spend.put n.toNat b, 0) else (s, 20)) else (s, 2)

theorem DskAt.post {B : Nat} {w w' : World} {g : Nat} {F : Nat → Prop} {s : DSt} (h : DskAt B w' g F s) {e : Ending} (hm : Mod F w w') : DskPost B w g F s e e w' :=
  ⟨rfl, F, h, hm, fun _ h => .inl h⟩

theorem spend_off {s : DSt} (h : s.on = false) : s.spend = s := by
  unfold DSt.on at h
  unfold DSt.spend
  rw [if_neg (by simp at h; omega)]

set_option maxHeartbeats 1600000 in
set_option maxRecDepth 100000 in
theorem dskWrite_any (B g : Nat) (F : Nat → Prop) (s : DSt) (n : Int) (A : Option Addr) (N cap : Nat) (S : Nat → Prop) (b : List UInt8) (w : World) (h : DskAt B w g F s) (hB : B ≤ w.heap.size) (hbig : s.ws.length ≤ 1000000) (hl : s.left ≤ 9223372036854775807)
    (hb : b.length = N) (hr : Rd S w A (b.map bv)) (hS : ∀ k, S k → ¬ F k) :
    Calls Try.prog 27 #[.pointer (some ⟨g, 0, none⟩), .int .i64 n, .slice A N cap] w (DskPost B w g F (s.write n b).1 (.returned (.int .i64 (s.write n b).2))) := by
  have HT := Lib.hid (dskThere_any B g F s n w h)
  have HH := Lib.hid h
  by_cases ht : s.there n = true
  · by_cases hN : N = 64
    · subst hN
      have hn : 0 ≤ n := by unfold DSt.there at ht; simp at ht; exact ht.1
      obtain ⟨m, rfl⟩ := Int.eq_ofNat_of_zero_le hn
      by_cases hon : s.on = true
      · have e : s.write m b = (s.spend.put m b, 0) := by unfold DSt.write; rw [if_pos ⟨ht, hb⟩, if_pos hon]; rfl
        rw [e]
        exact dskWrite_ok B g F s m A cap S b w h hB hbig hl ht hb hr hS hon
      · have hon' : s.on = false := by simpa using hon
        have e : s.write m b = (s, 20) := by unfold DSt.write; rw [if_pos ⟨ht, hb⟩, if_neg hon]
        rw [e]
        have HO := Lib.hid (dskOn_any B g F s w h hl)
        rw [ht] at HT
        rw [hon', spend_off hon'] at HO
        clear h hr
        go_enter Try.func27, Try.ntmps27
        go_wp2_with fail
        refine HT.out.mono ?_
        rintro r w0 ⟨rfl, rfl⟩
        go_wp2_with fail
        refine HO.out.mono ?_
        rintro r w1 ⟨rfl, F1, hd1, hm1, hF1⟩
        have HP := Lib.hid (show ∃ F1, DskAt B w1 g F1 s ∧ Mod F w w1 ∧ ∀ k, F1 k → F k ∨ w.heap.size ≤ k from ⟨F1, hd1, hm1, hF1⟩)
        clear hd1 hm1 hF1
        go_wp2_with fail
        go_ret
        exact ⟨rfl, HP.out⟩
    · have e : s.write n b = (s, 2) := by unfold DSt.write; rw [if_neg (by rw [hb]; exact fun h => hN h.2)]
      rw [e]
      have hNb : ((N : Int) == 64) = false := by simp; omega
      rw [ht] at HT
      clear h hr
      go_enter Try.func27, Try.ntmps27
      go_wp2_with fail
      refine HT.out.mono ?_
      rintro r w0 ⟨rfl, rfl⟩
      go_wp2_with fail
      go_ret
      exact HH.out.post (Mod.refl _ _)
  · have ht' : s.there n = false := by simpa using ht
    have e : s.write n b = (s, 2) := by unfold DSt.write; rw [if_neg (fun h => ht h.1)]
    rw [e]
    rw [ht'] at HT
    clear h hr
    go_enter Try.func27, Try.ntmps27
    go_wp2_with fail
    refine HT.out.mono ?_
    rintro r w0 ⟨rfl, rfl⟩
    go_wp2_with fail
    go_ret
    exact HH.out.post (Mod.refl _ _)

set_option maxHeartbeats 1600000 in
set_option maxRecDepth 100000 in
theorem dskRead_bad (B g : Nat) (F : Nat → Prop) (s : DSt) (n : Int) (w : World) (h : DskAt B w g F s) (ht : s.there n = false) :
    Calls Try.prog 90 #[.pointer (some ⟨g, 0, none⟩), .int .i64 n] w fun r w' => r = .returned (.tuple #[.slice none 0 0, .int .i64 2]) ∧ w = w' := by
  have HT := Lib.hid (dskThere_any B g F s n w h)
  rw [ht] at HT
  clear h
  go_enter Try.func90, Try.ntmps90
  go_wp2_with fail
  refine HT.out.mono ?_
  rintro r w0 ⟨rfl, rfl⟩
  go_wp2_with fail
  go_ret2
  exact ⟨rfl, rfl⟩

set_option maxHeartbeats 1600000 in
set_option maxRecDepth 100000 in
theorem dskRead_ok (B g : Nat) (F : Nat → Prop) (s : DSt) (n : Nat) (w : World) (h : DskAt B w g F s) (ht : s.there n = true) (hbig : s.ws.length ≤ 1000000) :
    Calls Try.prog 90 #[.pointer (some ⟨g, 0, none⟩), .int .i64 n] w fun r w' => ∃ v, r = .returned (.tuple #[v, .int .i64 0]) ∧ w'.ownsRow w.heap.size 5 1 v 64 ((sector s.img n).map bv) ∧ Mod Nil w w' := by
  have HT := Lib.hid (dskThere_any B g F s n w h)
  rw [ht] at HT
  obtain ⟨vs, vw, wts, rfl, h⟩ := h
  have hc0 := h.blk.cell 0
  have hc1 := h.blk.cell 1
  have hfit := DSt.there_fits ht
  have hbs := h.big
  obtain ⟨gs, cs, rfl, _, _⟩ := h.sure.form h.pos
  obtain ⟨C, d, rfl, hd1, hd2⟩ := own_slice h.waits
  obtain ⟨_, _, hcs1, hcs2, _, _⟩ := own_heap h.sure
  have hlen : wts.length = s.ws.length := by rw [h.st]; simp
  have H := Lib.hid h
  have hglt := h.blk.lt
  obtain ⟨k, hk⟩ : ∃ k, wts.length = k := ⟨_, rfl⟩
  rw [hk] at hlen hd1 hc1
  have HK := Lib.hid hk
  have HL := Lib.hid hlen
  have hk1 : k ≤ 1000000 := by omega
  clear h hk hlen
  go_enter Try.func90, Try.ntmps90
  go_wp2_with fail
  refine HT.out.mono ?_
  rintro r w0 ⟨rfl, rfl⟩
  go_wp2_with fail
  go_loopw [6] (fun iv wr => ∃ j : Nat, j ≤ k ∧ iv = .int .i64 ((j : Int) - 1) ∧ sector s.img n = sector (imgOf s.S (s.ws.take j)) n ∧ wr = w) (fun v _ => (intOf v + 1).toNat)
  case atStart => exact ⟨k, Nat.le_refl _, rfl, by rw [List.take_of_length_le (by have := HL.out; omega)]; rfl, rfl⟩
  case round =>
    obtain ⟨j, hj, rfl, hsec, rfl⟩ := hrel
    have HS := Lib.hid hsec
    clear hsec
    rcases Nat.eq_zero_or_pos j with rfl | hj0
    · have hw1 : IntKind.i64.wrap ((n : Int) * 64) = (n : Int) * 64 := IntWalk.i64_in _ (by omega)
      have hw2 : IntKind.i64.wrap (((n : Int) + 1) * 64) = ((n : Int) + 1) * 64 := IntWalk.i64_in _ (by omega)
      have hrd := ((Rd.of_own H.out.sure).drop (64 * n)).take 64
      rw [Addr.add_lit, Nat.zero_add, ← List.map_drop, ← List.map_take, Nat.mul_comm 64 n] at hrd
      have HRD := Lib.hid hrd
      have e64 : (n + 1) * 64 - n * 64 = 64 := by omega
      clear hrd
      go_wp2_with fail
      rw [e64]
      have hsl : ((s.S.drop (n * 64)).take 64).length = 64 := by rw [List.length_take, List.length_drop]; omega
      refine (clone_any _ _ 64 _ ((s.S.drop (n * 64)).take 64) wr hsl (by omega) HRD.out).mono ?_
      rintro r w2 ⟨v2, rfl, ho2, hm2⟩
      have HO := Lib.hid ho2
      have HM := Lib.hid hm2
      clear ho2 hm2 hsl
      go_wp2_with fail
      go_ret2
      refine ⟨v2, rfl, ?_, HM.out⟩
      rw [HS.out]
      have : sector (imgOf s.S (s.ws.take 0)) n = (s.S.drop (n * 64)).take 64 := by rw [Nat.mul_comm]; rfl
      rw [this]
      exact HO.out
    · obtain ⟨i, rfl⟩ : ∃ i, j = i + 1 := ⟨j - 1, by omega⟩
      have hji : ((i + 1 : Nat) : Int) - 1 = (i : Int) := by omega
      rw [hji]
      obtain ⟨x, hx⟩ : ∃ x, wts[i]? = some x := ⟨_, List.getElem?_eq_getElem (by have := HK.out; omega)⟩
      have hxm := List.mem_of_getElem? hx
      obtain ⟨e1, e2⟩ := flatMap_cells wts i x hx
      obtain ⟨gw, cw, hgw, _, _⟩ := H.out.waits.form (by have := HK.out; omega)
      injection hgw with hC _ hd
      subst hC hd
      have hcl := H.out.waits.cells (g := gw) rfl
      have q1 := hcl _ _ e1
      have q2 := hcl _ _ e2
      rw [Addr.add_lit, Nat.zero_add] at q1 q2
      have hst : s.ws[i]? = some (x.at_, x.l) := by rw [H.out.st, List.getElem?_map, hx]; rfl
      have himg : imgOf s.S (s.ws.take (i + 1)) = layB (imgOf s.S (s.ws.take i)) x.at_ x.l := by rw [List.take_add_one, hst]; exact imgOf_snoc _ _ _
      have hwt := H.out.all x hxm
      have hxl := wt_len hwt
      have hil : (imgOf s.S (s.ws.take i)).length = s.S.length := imgOf_length (fun y hy => H.out.fits y (List.mem_of_mem_take hy))
      unfold Wt.v at q2
      by_cases hat : x.at_ = n
      · have hb : ((x.at_ : Int) == n) = true := by simp [hat]
        have hsm : sector s.img n = x.l := by rw [HS.out, himg, hat]; exact sector_same hxl (by omega)
        have HSM := Lib.hid hsm
        have HWT := Lib.hid hwt
        clear e1 e2 hcl hst himg hwt hx hil hji hsm
        go_wp2_with fail
        refine (clone_any _ _ 64 _ x.l wr hxl (by omega) (Rd.of_own HWT.out.1)).mono ?_
        rintro r w2 ⟨v2, rfl, ho2, hm2⟩
        have HO := Lib.hid ho2
        have HM := Lib.hid hm2
        clear ho2 hm2
        go_wp2_with fail
        go_ret2
        refine ⟨v2, rfl, ?_, HM.out⟩
        rw [HSM.out]
        exact HO.out
      · have hb : ((x.at_ : Int) == n) = false := by simp; omega
        have hsm : sector s.img n = sector (imgOf s.S (s.ws.take i)) n := by rw [HS.out, himg]; exact sector_other hxl (by have := hwt.2.1; omega) hat
        have HSM := Lib.hid hsm
        clear e1 e2 hcl hst himg hwt hx hil hji hsm q2
        go_wp2_with fail
        go_roundw
        case rel => exact ⟨i, by omega, rfl, HSM.out, trivial⟩
        case measure => simp [intOf] <;> omega
end Go.Proofs.Ytjmehamkpmimkaa
