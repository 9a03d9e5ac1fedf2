/- Contracts of disk.Disk: Image, Sync, Of, New. -/
import Derived.Test.YtjmehamkpmimkaaDskW
namespace Go.Proofs.Ytjmehamkpmimkaa
open Go.RowKit

/-- What all sectors have. -/
def imgOf (S : List UInt8) (ws : List (Nat × List UInt8)) : List UInt8 := ws.foldl (fun S x => layB S x.1 x.2) S
def DSt.img (s : DSt) : List UInt8 := imgOf s.S s.ws

theorem imgOf_snoc (S : List UInt8) (ws : List (Nat × List UInt8)) (x : Nat × List UInt8) : imgOf S (ws ++ [x]) = layB (imgOf S ws) x.1 x.2 := by simp [imgOf, List.foldl_append]

theorem imgOf_length {S : List UInt8} {ws : List (Nat × List UInt8)} (h : ∀ x ∈ ws, 64 * x.1 + x.2.length ≤ S.length) : (imgOf S ws).length = S.length := by
  induction ws generalizing S with
  | nil => rfl
  | cons x r ih =>
    have hx := layB_length (h x (by simp))
    show (imgOf (layB S x.1 x.2) r).length = _
    rw [ih (fun y hy => by rw [hx]; exact h y (by simp [hy])), hx]

theorem wt_len {B N : Nat} {w : World} {vs : Value} {x : Wt} (h : WtAt B w vs N x) : x.l.length = 64 := by
  have := h.1.1
  simpa using this

theorem DskIs.fits {B : Nat} {w : World} {g : Nat} {vs vw : Value} {wts : List Wt} {s : DSt} (h : DskIs B w g vs vw wts s) : ∀ x ∈ s.ws, 64 * x.1 + x.2.length ≤ s.S.length := by
  intro x hx
  rw [h.st] at hx
  obtain ⟨y, hy, rfl⟩ := List.mem_map.1 hx
  have h1 := wt_len (h.all y hy)
  have h2 := (h.all y hy).2.1
  show 64 * y.at_ + y.l.length ≤ _
  omega

theorem flatMap_cells (wts : List Wt) (k : Nat) (x : Wt) (h : wts[k]? = some x) : (wts.flatMap Wt.cells)[k * 2]? = some (.int .i64 x.at_) ∧ (wts.flatMap Wt.cells)[k * 2 + 1]? = some x.v := by
  induction wts generalizing k with
  | nil => cases h
  | cons y r ih =>
    match k with
    | 0 => cases h; exact ⟨rfl, rfl⟩
    | k + 1 =>
      have := ih k (by simpa using h)
      have e1 : (k + 1) * 2 = k * 2 + 2 := by omega
      have e2 : (k + 1) * 2 + 1 = k * 2 + 1 + 2 := by omega
      rw [e2, e1]
      have e3 : (y :: r).flatMap Wt.cells = [.int .i64 y.at_, y.v] ++ r.flatMap Wt.cells := rfl
      rw [e3, List.getElem?_append_right (by simp), List.getElem?_append_right (by simp)]
      simpa using this

set_option maxHeartbeats 1600000 in
set_option maxRecDepth 100000 in
theorem dskImage_any (B g : Nat) (F : Nat → Prop) (s : DSt) (w : World) (h : DskAt B w g F s) (hbig : s.ws.length ≤ 1000000) :
    Calls Try.prog 31 #[.pointer (some ⟨g, 0, none⟩)] w fun r w' => ∃ v, r = .returned v ∧ w'.ownsRow w.heap.size 5 1 v s.S.length (s.img.map bv) ∧ Mod Nil w w' := by
  obtain ⟨vs, vw, wts, rfl, h⟩ := h
  have hc0 := h.blk.cell 0
  have hc1 := h.blk.cell 1
  obtain ⟨A, c, rfl, _, _⟩ := own_slice h.sure
  obtain ⟨C, d, rfl, hd1, hd2⟩ := own_slice h.waits
  have hlen : wts.length = s.ws.length := by rw [h.st]; simp
  have hbs := h.big
  have hpos := h.pos
  obtain ⟨n, hn⟩ : ∃ n, n = wts.length := ⟨_, rfl⟩
  obtain ⟨N, hN⟩ : ∃ N, N = s.S.length := ⟨_, rfl⟩
  rw [← hn] at hlen hc1 hd1
  rw [← hN] at hbs hpos
  have hglt := h.blk.lt
  have HN := Lib.hid hn
  have HNN := Lib.hid hN
  have H := Lib.hid h
  have HC := Lib.hid (clone_any _ A N c s.S w hN.symm (by omega) (Rd.of_own h.sure))
  rw [← hN] at hc0
  clear h hn hN
  go_enter Try.func31, Try.ntmps31
  go_wp2_with fail
  refine HC.out.mono ?_
  rintro r w1 ⟨v1, rfl, ho1, hm1⟩
  obtain ⟨gi, ci, rfl, hgi, hgil⟩ := ho1.form (by omega)
  have HO1 := Lib.hid ho1
  have HM1 := Lib.hid hm1
  have hc1' := (hm1.cell (p := ⟨g, 1, none⟩) hglt id).trans hc1
  clear ho1 hm1
  go_wp2_with fail
  go_loopw [16] (fun iv wr => ∃ k : Nat, k ≤ n ∧ iv = .int .i64 k ∧ wr.ownsRow w.heap.size 5 1 (.slice (some ⟨gi, 0, none⟩) N ci) N ((imgOf s.S (s.ws.take k)).map bv) ∧ Mod Nil w wr) (fun v _ => n - (intOf v).toNat)
  case atStart => exact ⟨0, Nat.zero_le _, rfl, HO1.out, HM1.out⟩
  case round =>
    obtain ⟨k, hk, rfl, ho, hm⟩ := hrel
    have HO := Lib.hid ho
    have HM := Lib.hid hm
    clear ho hm
    by_cases hlt : k < n
    · obtain ⟨x, hx⟩ : ∃ x, wts[k]? = some x := ⟨_, List.getElem?_eq_getElem (by have := HN.out; omega)⟩
      have hxm := List.mem_of_getElem? hx
      obtain ⟨e1, e2⟩ := flatMap_cells wts k x hx
      have hD := H.out.keep HM.out (fun _ _ => id)
      obtain ⟨gw, cw, hgw, _, _⟩ := hD.waits.form (by have := HN.out; omega)
      injection hgw with hC _ hd
      subst hC hd
      have hcl := hD.waits.cells (g := gw) rfl
      have q1 := hcl _ _ e1
      have q2 := hcl _ _ e2
      rw [Addr.add_lit, Nat.zero_add] at q1 q2
      have hwt := hD.all x hxm
      have hst : s.ws[k]? = some (x.at_, x.l) := by rw [H.out.st, List.getElem?_map, hx]; rfl
      have himg : imgOf s.S (s.ws.take (k + 1)) = layB (imgOf s.S (s.ws.take k)) x.at_ x.l := by rw [List.take_add_one, hst]; exact imgOf_snoc _ _ _
      have HI := Lib.hid himg
      have HWT := Lib.hid hwt
      have hat := hwt.2.1
      obtain ⟨_, _, hcap1, hcap2, _, _⟩ := own_heap hwt.1
      have hxl := wt_len hwt
      clear e1 e2 hD hcl hst himg hwt hx
      unfold Wt.v at q2
      have hb64 : 64 * x.at_ + 64 ≤ N := by rw [HNN.out]; exact hat
      clear hat
      go_wp2_with fail
      refine (lay_any w.heap.size gi N ci x.at_ x.b x.cap 64 (imgOf s.S (s.ws.take k)) x.l _ (own_keep HO.out ((Mod.refl Nil wr).alloc _) (fun _ _ => id)) ((Rd.of_own HWT.out.1).keep0 ((Mod.refl Nil wr).alloc _) |>.mono fun _ _ _ => trivial) hxl hcap1 hcap2 hb64 (Nat.le_refl _) hbs).mono ?_
      rintro r w2 ⟨rfl, ho2, hm2⟩
      have ho3 : w2.ownsRow w.heap.size 5 1 (.slice (some ⟨gi, 0, none⟩) N ci) N ((imgOf s.S (s.ws.take (k + 1))).map bv) := by
        rw [HI.out]
        rw [List.take_of_length_le (l := x.l) (by omega)] at ho2
        exact ho2
      have HO2 := Lib.hid ho3
      have HM2 := Lib.hid (show Mod Nil w w2 from (HM.out.alloc _).trans' hm2 (fun _ _ h => h) (fun j hj e => absurd hj (by omega)))
      clear ho2 hm2 ho3
      go_wp2_with fail
      go_roundw
      case rel => exact ⟨k + 1, by omega, by go_num, HO2.out, HM2.out⟩
      case measure => simp [intOf] <;> omega
    · go_wp2_with fail
      go_ret
      have hk' : s.ws.take k = s.ws := List.take_of_length_le (by omega)
      refine ⟨_, rfl, ?_, HM.out⟩
      have := HO.out
      rw [hk'] at this
      have e := HNN.out
      subst e
      exact this
end Go.Proofs.Ytjmehamkpmimkaa
