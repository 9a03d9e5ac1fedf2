/- Contracts of the document's disk: Image, Read, Sync, Write. -/
import Derived.Test.YtjmehamkpmimkaaRdkW
import Derived.Test.YtjmehamkpmimkaaFlow
namespace Go.Proofs.Ytjmehamkpmimkaa
open Go.RowKit

theorem flatMap_rw (ws : List (Nat × List UInt8)) (k : Nat) (x : Nat × List UInt8) (h : ws[k]? = some x) : (ws.flatMap rwCells)[k * 2]? = some (.int .i64 x.1) ∧ (ws.flatMap rwCells)[k * 2 + 1]? = some (.string (str x.2)) := by
  induction ws generalizing k with
  | nil => cases h
  | cons y r ih =>
    match k with
    | 0 => cases h; exact ⟨rfl, rfl⟩
    | k + 1 =>
      have := ih k (by simpa using h)
      have e1 : (k + 1) * 2 = k * 2 + 2 := by omega
      have e2 : (k + 1) * 2 + 1 = k * 2 + 1 + 2 := by omega
      rw [e2, e1]
      have e3 : (y :: r).flatMap rwCells = [.int .i64 y.1, .string (str y.2)] ++ r.flatMap rwCells := rfl
      rw [e3, List.getElem?_append_right (by simp), List.getElem?_append_right (by simp)]
      simpa using this

set_option maxHeartbeats 3200000 in
set_option maxRecDepth 100000 in
theorem rdkImage_any (B g : Nat) (F : Nat → Prop) (s : DSt) (w : World) (h : RdkAt B w g F s) (hbig : s.ws.length ≤ 1000000) :
    Calls Try.prog 32 #[.pointer (some ⟨g, 0, none⟩)] w fun r w' => r = .returned (.string (str s.img)) ∧ Mod Nil w w' := by
  obtain ⟨vw, rfl, h⟩ := h
  have hc0 := h.blk.cell 0
  obtain ⟨C, d, rfl, hd1, hd2⟩ := own_slice h.waits
  have hbs := h.big
  obtain ⟨n, hn⟩ : ∃ n, s.ws.length = n := ⟨_, rfl⟩
  rw [hn] at hbig hd1
  have HN := Lib.hid hn
  have H := Lib.hid h
  clear h hn
  go_enter Try.func32, Try.ntmps32
  go_wp2_with fail
  clear hc0
  go_loopw [3, 4] (fun sv iv wr => ∃ k : Nat, k ≤ n ∧ iv = .int .i64 k ∧ sv = .string (str (imgOf s.S (s.ws.take k))) ∧ Mod Nil w wr) (fun _ v _ => n - (intOf v).toNat)
  case atStart => exact ⟨0, Nat.zero_le _, rfl, rfl, Mod.refl _ _⟩
  case round =>
    obtain ⟨k, hk, rfl, rfl, hm⟩ := hrel
    have hD := H.out.keep hm (fun _ _ => id)
    have hc1 : wr.cell? ⟨g, 1, none⟩ = some (.slice C n d) := by have := hD.blk.cell 1; rw [HN.out] at this; exact this
    have HM := Lib.hid hm
    clear hm
    by_cases hlt : k < n
    · obtain ⟨x, hx⟩ : ∃ x, s.ws[k]? = some x := ⟨_, List.getElem?_eq_getElem (by have := HN.out; omega)⟩
      have hxm := List.mem_of_getElem? hx
      obtain ⟨e1, e2⟩ := flatMap_rw s.ws k x hx
      obtain ⟨gw, cw, hgw, _, _⟩ := hD.waits.form (by have := HN.out; omega)
      injection hgw with hC hnn hdd
      subst hC hdd
      clear hnn
      have hcl := hD.waits.cells (g := gw) rfl
      have q1 := hcl _ _ e1
      have q2 := hcl _ _ e2
      rw [Addr.add_lit, Nat.zero_add] at q1 q2
      have hwlt := (hD.waits.lt gw rfl).2
      have hglt := hD.blk.lt
      have himg : imgOf s.S (s.ws.take (k + 1)) = layB (imgOf s.S (s.ws.take k)) x.1 x.2 := by rw [List.take_add_one, hx]; exact imgOf_snoc _ _ _
      have HI := Lib.hid himg
      have hfit := H.out.fit x hxm
      obtain ⟨I, hI⟩ : ∃ I, I = imgOf s.S (s.ws.take k) := ⟨_, rfl⟩
      have hil : I.length = s.S.length := by rw [hI]; exact imgOf_length (fun y hy => (H.out.fit y (List.mem_of_mem_take hy)).1)
      have HX1 := Lib.hid (show 64 * x.1 + x.2.length ≤ I.length by rw [hil]; exact hfit.1)
      have HX2 := Lib.hid (show I.length ≤ 1000000000 by rw [hil]; omega)
      rw [← hI] at HI ⊢
      have hwx : IntKind.i64.wrap (64 * (x.1 : Int)) = ((64 * x.1 : Nat) : Int) := by rw [IntWalk.i64_in _ (by omega)]; omega
      have HC1 := Lib.hid hc1
      have HQ1 := Lib.hid q1
      have HQ2 := Lib.hid q2
      clear e1 e2 hD hcl himg hx hI hil hfit hc1 q1 q2
      have hc1 := HC1.out
      go_wp2_with fail
      have q1 := HQ1.out
      have q2 := HQ2.out
      go_wp2_with (go_quiet (first | (go_at_call 67; refine Calls.quiet_of (refLay_any I x.2 (64 * x.1) _ HX1.out HX2.out))))
      go_roundw
      case rel => exact ⟨k + 1, by omega, by go_num, by rw [HI.out]; rfl, HM.out.drewN _⟩
      case measure => simp [intOf] <;> omega
    · clear hD
      go_wp2_with fail
      go_ret
      have hk' : s.ws.take k = s.ws := List.take_of_length_le (by have := HN.out; omega)
      exact ⟨by rw [hk']; rfl, HM.out⟩
end Go.Proofs.Ytjmehamkpmimkaa
