/- Contract of the document's disk: Crash. -/
import Derived.Test.YtjmehamkpmimkaaRdkY
import Derived.Deep.DeepCutAuto
import Derived.Deep.CutBlock
namespace Go.Proofs.Ytjmehamkpmimkaa
open Go.RowKit

theorem RdkIs.sure_ {B g : Nat} {w : World} {vw : Value} {s : DSt} (h : RdkIs B w g vw s) {S' : List UInt8} (hl : S'.length = s.S.length) : RdkIs B (w.setCell ⟨g, 0, none⟩ (.string (str S'))) g vw ⟨S', s.ws, s.left⟩ :=
  ⟨by simpa using h.blk.set_ 0 (.string (str S')), h.low, own_keep h.waits ((Mod.refl (fun k => k = g) w).set (p := ⟨g, 0, none⟩) (.inl rfl) _) (fun k hk hkg => h.ne (hkg ▸ hk)), fun x hx => by rw [show (⟨S', s.ws, s.left⟩ : DSt).S.length = s.S.length from hl]; exact h.fit x hx, by rw [show (⟨S', s.ws, s.left⟩ : DSt).S.length = s.S.length from hl]; exact h.big⟩

theorem rcrash_round {B g : Nat} {vw : Value} {s : DSt} {w wr wX : World} {S' : List UInt8} (hd : RdkIs B wr g vw s) (hm : Mod (RF g vw) w wr) (hl : S'.length = s.S.length) (hX : Mod Nil wr wX) :
    RdkIs B (wX.setCell ⟨g, 0, none⟩ (.string (str S'))) g vw ⟨S', s.ws, s.left⟩ ∧ Mod (RF g vw) w (wX.setCell ⟨g, 0, none⟩ (.string (str S'))) :=
  ⟨(hd.keep hX (fun _ _ => id)).sure_ hl, (hm.trans hX.any).set (p := ⟨g, 0, none⟩) (.inl (.inl rfl)) _⟩

theorem rcrash_after {B g : Nat} {vw : Value} {s : DSt} {w w2 : World} {e : Ending} (hd : RdkIs B w2 g vw s) (hm : Mod (RF g vw) w w2) :
    RdkPost B w g (RF g vw) ⟨s.S, [], -1⟩ e e ((w2.setCell ⟨g, 1, none⟩ (.slice none 0 0)).setCell ⟨g, 2, none⟩ (.int .i64 (-1))) := by
  refine ⟨rfl, RF g (.slice none 0 0), ⟨.slice none 0 0, rfl, by simpa using (hd.blk.set_ 1 (.slice none 0 0)).set_ 2 (.int .i64 (-1)), hd.low, World.ownsRow_nil _ _ _ _, fun x hx => (by cases hx), hd.big⟩, (hm.set (p := ⟨g, 1, none⟩) (.inl (.inl rfl)) _).set (p := ⟨g, 2, none⟩) (.inl (.inl rfl)) _, ?_⟩
  rintro k (rfl | hk)
  · exact .inl (.inl rfl)
  · cases hk

set_option maxHeartbeats 6400000 in
set_option maxRecDepth 100000 in
theorem rdkCrash_any (B g : Nat) (F : Nat → Prop) (s : DSt) (K : Option Addr) (kn kc : Nat) (keep : List Bool) (torn octets : Int) (S0 : Nat → Prop) (w : World) (h : RdkAt B w g F s) (hbig : s.ws.length ≤ 1000000)
    (hkl : keep.length = kn) (hr : Rd S0 w K (keep.map Value.bool)) (hS : ∀ k, S0 k → ¬ F k) :
    Calls Try.prog 23 #[.pointer (some ⟨g, 0, none⟩), .slice K kn kc, .int .i64 torn, .int .i64 octets] w (RdkPost B w g F (s.crash keep torn octets) (.returned (.tuple #[]))) := by
  obtain ⟨vw, rfl, h⟩ := h
  have hbs := h.big
  obtain ⟨C, d, rfl, hd1, hd2⟩ := own_slice h.waits
  have H := Lib.hid h
  have HR := Lib.hid hr
  have HS := Lib.hid hS
  obtain ⟨k0, hk0⟩ : ∃ k0, s.ws.length = k0 := ⟨_, rfl⟩
  rw [hk0] at hbig hd1
  have HK := Lib.hid hk0
  have HKL := Lib.hid hkl
  obtain ⟨t, ht⟩ : ∃ t, clamp octets = t := ⟨_, rfl⟩
  have ht64 : t ≤ 64 := by unfold clamp at ht; omega
  have ht64i : (t : Int) ≤ 64 := by omega
  have HT := Lib.hid ht
  clear h hk0 hr hS hkl ht
  go_enter Try.func23, Try.ntmps23
  go_upto_if 13 with fail
  go_cut [8] (fun nv wx => nv = .int .i64 (max octets 0) ∧ wx = w)
  case first =>
    by_cases h0 : octets < 0
    · have HX := Lib.hid (show (0 : Int) = max octets 0 by omega)
      go_wp2_with fail
      go_meet
      case rel => exact ⟨congrArg (Value.int .i64) HX.out, rfl⟩
    · have HX := Lib.hid (show octets = max octets 0 by omega)
      go_wp2_with fail
      go_meet
      case rel => exact ⟨congrArg (Value.int .i64) HX.out, rfl⟩
  case rest =>
    obtain ⟨rfl, rfl⟩ := hcut
    obtain ⟨q, hq⟩ : ∃ q, q = max octets 0 := ⟨_, rfl⟩
    rw [← hq]
    have HQ := Lib.hid (show (64 < q → (t : Int) = 64) ∧ (¬ 64 < q → (t : Int) = q) by have := HT.out; unfold clamp at this; omega)
    clear hq
    go_upto_if 15 with fail
    go_cut [8] (fun nv wx => nv = .int .i64 t ∧ wx = wc)
    case first =>
      by_cases h0 : 64 < q
      · have HX := Lib.hid (HQ.out.1 h0).symm
        go_wp2_with fail
        go_meet
        case rel => exact ⟨congrArg (Value.int .i64) HX.out, rfl⟩
      · have HX := Lib.hid (HQ.out.2 h0).symm
        go_wp2_with fail
        go_meet
        case rel => exact ⟨congrArg (Value.int .i64) HX.out, rfl⟩
    case rest =>
      obtain ⟨rfl, rfl⟩ := hcut
      go_wp2_with fail
      go_loopw [9] (fun iv wr => ∃ k : Nat, k ≤ k0 ∧ iv = .int .i64 k ∧ RdkIs B wr g (.slice C s.ws.length d) ⟨crTo keep torn (clamp octets) s.S s.ws k, s.ws, s.left⟩ ∧ Mod (RF g (.slice C s.ws.length d)) wc wr) (fun v _ => k0 - (intOf v).toNat)
      case atStart => exact ⟨0, Nat.zero_le _, rfl, H.out, Mod.refl _ _⟩
      case round =>
        obtain ⟨k, hk, rfl, hd, hm⟩ := hrel
        have hc1 : wr.cell? ⟨g, 1, none⟩ = some (.slice C k0 d) := by have := hd.blk.cell 1; rw [HK.out] at this; exact this
        have hgl := hd.blk.lt
        by_cases hlt : k < k0
        · obtain ⟨x, hx⟩ : ∃ x, s.ws[k]? = some x := ⟨_, List.getElem?_eq_getElem (by have := HK.out; omega)⟩
          have hxm := List.mem_of_getElem? hx
          obtain ⟨e1, e2⟩ := flatMap_rw s.ws k x hx
          obtain ⟨gw, cw, hgw, _, _⟩ := hd.waits.form (by show 0 < s.ws.length; have := HK.out; omega)
          injection hgw with hC hnn hdd
          subst hC hdd
          clear hnn
          have hcl := hd.waits.cells (g := gw) rfl
          have q1 := hcl _ _ e1
          have q2 := hcl _ _ e2
          rw [Addr.add_lit, Nat.zero_add] at q1 q2
          obtain ⟨Sk, hSk⟩ : ∃ Sk, Sk = crTo keep torn (clamp octets) s.S s.ws k := ⟨_, rfl⟩
          have hnext : crTo keep torn (clamp octets) s.S s.ws (k + 1) = crStep keep torn t Sk k x := by
            rw [crTo, hx, ← hSk, HT.out]
          rw [← hSk] at hd
          have hfit := H.out.fit x hxm
          have hlS : Sk.length = s.S.length := by rw [hSk]; exact crTo_length (fun y hy => (H.out.fit y hy).1) k
          have hc0 : wr.cell? ⟨g, 0, none⟩ = some (.string (str Sk)) := hd.blk.cell 0
          have hf0 := hd.blk.frozen 0
          have hx64 : x.2.length = 64 := hfit.2
          have hxa : 64 * x.1 + 64 ≤ Sk.length := by rw [hlS]; have := hfit.1; omega
          have hSb : Sk.length ≤ 4194304 := by rw [hlS]; exact hbs
          have hwx : IntKind.i64.wrap (64 * (x.1 : Int)) = ((64 * x.1 : Nat) : Int) := by rw [IntWalk.i64_in _ (by omega)]; omega
          have hsx : (str x.2).size = 64 := by rw [str_size]; exact hx64
          have HNX := Lib.hid hnext
          have HD := Lib.hid hd
          have HM := Lib.hid hm
          have HLS := Lib.hid hlS
          have hwlt := (hd.waits.lt gw rfl).2
          have HX64 := Lib.hid hx64
          clear e1 e2 hcl hSk hnext hd hm hlS hx hfit hx64
          go_upto_block 1 with (fail)
          go_cut [] (fun wx => RdkIs B wx g (.slice (some ⟨gw, 0, none⟩) s.ws.length d) ⟨crTo keep torn (clamp octets) s.S s.ws (k + 1), s.ws, s.left⟩ ∧ Mod (RF g (.slice (some ⟨gw, 0, none⟩) s.ws.length d)) wc wx)
          case first =>
            by_cases htorn : (k : Int) = torn
            · have hb : ((k : Int) == torn) = true := by simp [htorn]
              have HCT := Lib.hid (show crStep keep torn t Sk k x = splice Sk (64 * x.1) (x.2.take t) by unfold crStep; rw [if_pos htorn]; rfl)
              have hxt : (str x.2).extract 0 t = str (x.2.take t) := by rw [str_extract]; simp
              have HRL := Lib.hid (show 64 * x.1 + (x.2.take t).length ≤ Sk.length by rw [List.length_take]; omega)
              have HRB := Lib.hid (show Sk.length ≤ 1000000000 by omega)
              clear htorn
              go_wp2_with fail
              go_region_law (go_simp; go_at_call 67; (try rw [hxt]); refine (refLay_any Sk (x.2.take t) (64 * x.1) _ HRL.out HRB.out).mono ?_; rintro r w5 ⟨rfl, k5, rfl⟩)
              all_goals
                go_wp2_with fail
                go_meet
                case rel =>
                  have hlen : (splice Sk (64 * x.1) (x.2.take t)).length = Sk.length := length_splice _ _ _ HRL.out
                  rw [HNX.out, HCT.out]
                  exact rcrash_round (s := ⟨Sk, s.ws, s.left⟩) HD.out HM.out hlen (((Mod.refl Nil wr).alloc _).drewN _)
            · have hb : ((k : Int) == torn) = false := by simp [htorn]
              have hrd' := ((HR.out.keep HM.out HS.out).keep0 ((Mod.refl Nil wr).alloc (.cells #[.int .i64 x.1, .string (str x.2)] 106)))
              by_cases hkeep : keep[k]? = some true
              · have HCT := Lib.hid (show crStep keep torn t Sk k x = splice Sk (64 * x.1) x.2 by unfold crStep; rw [if_neg htorn, if_pos hkeep]; rfl)
                have hkn : k < kn := by have := (List.getElem?_eq_some_iff.1 hkeep).1; have := HKL.out; omega
                obtain ⟨ad, rfl, _, _, hck⟩ := hrd'.at_ (k := k) (u := .bool true) (by rw [List.getElem?_map, hkeep]; rfl)
                have HRL := Lib.hid (show 64 * x.1 + x.2.length ≤ Sk.length by have := HX64.out; omega)
                have HRB := Lib.hid (show Sk.length ≤ 1000000000 by omega)
                clear htorn hkeep hrd'
                go_wp2_with fail
                go_region_law (go_simp; go_at_call 67; refine (refLay_any Sk x.2 (64 * x.1) _ HRL.out HRB.out).mono ?_; rintro r w5 ⟨rfl, k5, rfl⟩)
                all_goals
                  go_wp2_with fail
                  go_meet
                  case rel =>
                    have hlen : (splice Sk (64 * x.1) x.2).length = Sk.length := length_splice _ _ _ HRL.out
                    rw [HNX.out, HCT.out]
                    exact rcrash_round (s := ⟨Sk, s.ws, s.left⟩) HD.out HM.out hlen (((Mod.refl Nil wr).alloc _).drewN _)
              · have HCT := Lib.hid (show crStep keep torn t Sk k x = Sk by unfold crStep; rw [if_neg htorn, if_neg hkeep])
                by_cases hkn : k < kn
                · obtain ⟨b, hbk⟩ : ∃ b, keep[k]? = some b := ⟨_, List.getElem?_eq_getElem (by have := HKL.out; omega)⟩
                  obtain rfl : b = false := by cases b <;> simp_all
                  obtain ⟨ad, rfl, _, _, hck⟩ := hrd'.at_ (k := k) (u := .bool false) (by rw [List.getElem?_map, hbk]; rfl)
                  clear htorn hkeep hbk hrd'
                  go_wp2_with fail
                  go_meet
                  case rel =>
                    rw [HNX.out, HCT.out]
                    exact ⟨HD.out.keep ((Mod.refl Nil wr).alloc _) (fun _ _ => id), HM.out.alloc _⟩
                · clear htorn hkeep hrd'
                  go_wp2_with fail
                  go_meet
                  case rel =>
                    rw [HNX.out, HCT.out]
                    exact ⟨HD.out.keep ((Mod.refl Nil wr).alloc _) (fun _ _ => id), HM.out.alloc _⟩
          case rest =>
            have HCUT := Lib.hid hcut
            clear hcut
            go_wp2_with fail
            go_roundw
            case rel => exact ⟨k + 1, by omega, by go_num, HCUT.out.1, HCUT.out.2⟩
            case measure => simp [intOf] <;> omega
        · have hc2 := hd.blk.cell 2
          have hf1 := hd.blk.frozen 1
          have hf2 := hd.blk.frozen 2
          have HP := Lib.hid (fun (e : Ending) => rcrash_after (e := e) hd hm)
          have HE := Lib.hid (show (⟨crTo keep torn (clamp octets) s.S s.ws k, [], -1⟩ : DSt) = s.crash keep torn octets by unfold DSt.crash; rw [show s.ws.length = k by have := HK.out; omega])
          clear hd hm
          go_wp2_with fail
          go_end0
          rw [← HE.out]
          exact HP.out _
end Go.Proofs.Ytjmehamkpmimkaa
