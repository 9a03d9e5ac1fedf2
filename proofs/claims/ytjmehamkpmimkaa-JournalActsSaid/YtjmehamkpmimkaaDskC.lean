/- Contract of disk.Disk.Crash. -/
import Derived.Test.YtjmehamkpmimkaaDskZ
import Derived.Deep.DeepCutAuto
import Derived.Deep.CutBlock
namespace Go.Proofs.Ytjmehamkpmimkaa
open Go.RowKit

/-- What a crash does with a write that waits. -/
def crStep (keep : List Bool) (torn : Int) (t : Nat) (S : List UInt8) (k : Nat) (x : Nat × List UInt8) : List UInt8 :=
  if (k : Int) = torn then layB S x.1 (x.2.take t) else if keep[k]? = some true then layB S x.1 x.2 else S
def crTo (keep : List Bool) (torn : Int) (t : Nat) (S : List UInt8) (ws : List (Nat × List UInt8)) : Nat → List UInt8
  | 0 => S
  | k + 1 => match ws[k]? with | some x => crStep keep torn t (crTo keep torn t S ws k) k x | none => crTo keep torn t S ws k
def clamp (n : Int) : Nat := (min (max n 0) 64).toNat
def DSt.crash (s : DSt) (keep : List Bool) (torn octets : Int) : DSt := ⟨crTo keep torn (clamp octets) s.S s.ws s.ws.length, [], -1⟩

theorem crStep_length {keep : List Bool} {torn : Int} {t : Nat} {S : List UInt8} {k : Nat} {x : Nat × List UInt8} (h : 64 * x.1 + x.2.length ≤ S.length) : (crStep keep torn t S k x).length = S.length := by
  unfold crStep
  split
  · exact layB_length (by rw [List.length_take]; omega)
  · split
    · exact layB_length h
    · rfl

theorem crTo_length {keep : List Bool} {torn : Int} {t : Nat} {S : List UInt8} {ws : List (Nat × List UInt8)} (h : ∀ x ∈ ws, 64 * x.1 + x.2.length ≤ S.length) : ∀ k, (crTo keep torn t S ws k).length = S.length := by
  intro k
  induction k with
  | zero => rfl
  | succ k ih =>
    unfold crTo
    split
    · rename_i x hx
      rw [crStep_length (by rw [ih]; exact h x (List.mem_of_getElem? hx)), ih]
    · exact ih

theorem DskIs.sure_ {B g gs N cs : Nat} {vw : Value} {wts : List Wt} {s : DSt} {w w2 : World} {S' : List UInt8} (hd : DskIs B w g (.slice (some ⟨gs, 0, none⟩) N cs) vw wts s)
    (ho : w2.ownsRow B 5 1 (.slice (some ⟨gs, 0, none⟩) N cs) N (S'.map bv)) (hm : Mod (fun k => k = gs) w w2) (hl : s.S.length = N) : DskIs B w2 g (.slice (some ⟨gs, 0, none⟩) N cs) vw wts ⟨S', s.ws, s.left⟩ := by
  have hl' : S'.length = N := by have := ho.1; simpa using this
  have hsure := hd.sure
  rw [hl] at hsure
  obtain ⟨cur, hgs, _⟩ := own_heap hsure
  have hgs : Blk w gs 5 cur := hgs
  refine ⟨hd.blk.keep hm (fun e => hd.ne_sure (by rw [e]; rfl)), hd.low, by rw [show (⟨S', s.ws, s.left⟩ : DSt).S.length = N from hl']; exact ho, own_keep hd.waits hm (fun k hk hkg => own_blk_ne hd.waits hgs (by decide) (hkg ▸ hk)), fun x hx => ?_, hd.st, ?_, ?_, ?_⟩
  · obtain ⟨h1, h2, h3⟩ := hd.all x hx
    exact ⟨own_keep h1 hm (fun k hk hkg => h3 (by have : x.b = k := by simpa [Wt.v, Value.ownBlock] using hk
                                                  rw [this, hkg]; rfl)), by show _ ≤ S'.length; omega, h3⟩
  · show 0 < S'.length; have := hd.pos; omega
  · show S'.length ≤ _; have := hd.big; omega
  · show S'.length % 64 = 0; have := hd.mod; omega

theorem crash_after {B g : Nat} {vs vw : Value} {wts : List Wt} {s : DSt} {w w2 : World} {e : Ending} (hd : DskIs B w2 g vs vw wts s) (hm : Mod (DF g vs vw wts) w w2) :
    DskPost B w g (DF g vs vw wts) ⟨s.S, [], -1⟩ e e ((w2.setCell ⟨g, 1, none⟩ (.slice none 0 0)).setCell ⟨g, 2, none⟩ (.int .i64 (-1))) := by
  have hm3 : Mod (fun k => k = g) w2 ((w2.setCell ⟨g, 1, none⟩ (.slice none 0 0)).setCell ⟨g, 2, none⟩ (.int .i64 (-1))) := ((Mod.refl (fun k => k = g) w2).set (p := ⟨g, 1, none⟩) (.inl rfl) _).set (p := ⟨g, 2, none⟩) (.inl rfl) _
  refine ⟨rfl, DF g vs (.slice none 0 0) [], ⟨vs, .slice none 0 0, [], rfl, ?_, hd.low, own_keep hd.sure hm3 (fun k hk hkg => hd.ne_sure (hkg ▸ hk)), World.ownsRow_nil _ _ _ _, fun x hx => (by cases hx), rfl, hd.pos, hd.big, hd.mod⟩, ?_, ?_⟩
  · simpa using (hd.blk.set_ 1 (.slice none 0 0)).set_ 2 (.int .i64 (-1))
  · exact hm.trans' hm3 (fun _ _ h => h) (fun k _ hk => .inl hk)
  · rintro k (rfl | hk | hk | ⟨x, hx, _⟩)
    · exact .inl (.inl rfl)
    · exact .inl (.inr (.inl hk))
    · cases hk
    · cases hx

theorem crash_round {B g gs N cs : Nat} {vw : Value} {wts : List Wt} {s : DSt} {w wr wX w2 : World} {S' : List UInt8} (hd : DskIs B wr g (.slice (some ⟨gs, 0, none⟩) N cs) vw wts s) (hm : Mod (DF g (.slice (some ⟨gs, 0, none⟩) N cs) vw wts) w wr) (hX : Mod Nil wr wX)
    (ho : w2.ownsRow B 5 1 (.slice (some ⟨gs, 0, none⟩) N cs) N (S'.map bv)) (hm2 : Mod (fun k => k = gs) wX w2) (hl : s.S.length = N) :
    DskIs B w2 g (.slice (some ⟨gs, 0, none⟩) N cs) vw wts ⟨S', s.ws, s.left⟩ ∧ Mod (DF g (.slice (some ⟨gs, 0, none⟩) N cs) vw wts) w w2 :=
  ⟨(hd.keep hX (fun _ _ => id)).sure_ ho hm2 hl, (hm.trans' hX (H := DF g (.slice (some ⟨gs, 0, none⟩) N cs) vw wts) (fun _ _ h => h) (fun _ _ h => h.elim)).trans' hm2 (fun _ _ h => h) (fun k _ e => .inr (.inl (by rw [e]; rfl)))⟩

set_option maxHeartbeats 6400000 in
set_option maxRecDepth 100000 in
theorem dskCrash_any (B g : Nat) (F : Nat → Prop) (s : DSt) (K : Option Addr) (kn kc : Nat) (keep : List Bool) (torn octets : Int) (S0 : Nat → Prop) (w : World) (h : DskAt B w g F s) (hbig : s.ws.length ≤ 1000000)
    (hkl : keep.length = kn) (hkb : kn ≤ maxLen) (hr : Rd S0 w K (keep.map Value.bool)) (hS : ∀ k, S0 k → ¬ F k) :
    Calls Try.prog 22 #[.pointer (some ⟨g, 0, none⟩), .slice K kn kc, .int .i64 torn, .int .i64 octets] w (DskPost B w g F (s.crash keep torn octets) (.returned (.tuple #[]))) := by
  obtain ⟨vs, vw, wts, rfl, h⟩ := h
  have hc1 := h.blk.cell 1
  have hbs := h.big
  obtain ⟨gs, cs, rfl, _, _⟩ := h.sure.form h.pos
  obtain ⟨C, d, rfl, hd1, hd2⟩ := own_slice h.waits
  have hlen : wts.length = s.ws.length := by rw [h.st]; simp
  have H := Lib.hid h
  have HR := Lib.hid hr
  have HS := Lib.hid hS
  obtain ⟨k0, hk0⟩ : ∃ k0, wts.length = k0 := ⟨_, rfl⟩
  obtain ⟨N, hN⟩ : ∃ N, s.S.length = N := ⟨_, rfl⟩
  have hb0 : k0 ≤ 1000000 := by omega
  rw [hk0, hN] at hc1
  rw [hk0] at hd1
  rw [hN] at hbs
  have H' : DskIs B w g (.slice (some ⟨gs, 0, none⟩) N cs) (.slice C k0 d) wts s := by rw [hN, hk0] at h; exact h
  have HN := Lib.hid hN
  have HK := Lib.hid hk0
  have HL := Lib.hid (show k0 = s.ws.length by omega)
  rw [hN, hk0]
  have H2 := Lib.hid H'
  have HKL := Lib.hid hkl
  clear h hk0 hN hlen H H' hr hS hkl hbig
  go_enter Try.func22, Try.ntmps22
  go_wp2_with fail
  go_loopw [15] (fun iv wr => ∃ k : Nat, k ≤ k0 ∧ iv = .int .i64 k ∧ DskIs B wr g (.slice (some ⟨gs, 0, none⟩) N cs) (.slice C k0 d) wts ⟨crTo keep torn (clamp octets) s.S s.ws k, s.ws, s.left⟩ ∧ Mod (DF g (.slice (some ⟨gs, 0, none⟩) N cs) (.slice C k0 d) wts) w wr) (fun v _ => k0 - (intOf v).toNat)
  case atStart => exact ⟨0, Nat.zero_le _, rfl, H2.out, Mod.refl _ _⟩
  case round =>
    obtain ⟨k, hk, rfl, hd, hm⟩ := hrel
    by_cases hlt : k < k0
    · obtain ⟨x, hx⟩ : ∃ x, wts[k]? = some x := ⟨_, List.getElem?_eq_getElem (by have := HK.out; omega)⟩
      have hxm := List.mem_of_getElem? hx
      obtain ⟨e1, e2⟩ := flatMap_cells wts k x hx
      obtain ⟨gw, cw, hgw, _, _⟩ := hd.waits.form (by have := HK.out; omega)
      injection hgw with hC hnn hdd
      subst hC hdd
      clear hnn
      have hcl := hd.waits.cells (g := gw) rfl
      have q1 := hcl _ _ e1
      have q2 := hcl _ _ e2
      rw [Addr.add_lit, Nat.zero_add] at q1 q2
      have hst : s.ws[k]? = some (x.at_, x.l) := by rw [H2.out.st, List.getElem?_map, hx]; rfl
      obtain ⟨Sk, hSk⟩ : ∃ Sk, Sk = crTo keep torn (clamp octets) s.S s.ws k := ⟨_, rfl⟩
      have hnext : crTo keep torn (clamp octets) s.S s.ws (k + 1) = crStep keep torn (clamp octets) Sk k (x.at_, x.l) := by
        rw [crTo, hst, ← hSk]
      rw [← hSk] at hd
      have hwt := hd.all x hxm
      have hxl := wt_len hwt
      have hlS : Sk.length = N := by rw [hSk, crTo_length H2.out.fits]; exact HN.out
      have hat : 64 * x.at_ + 64 ≤ N := by have := hwt.2.1; rw [← hlS]; exact this
      obtain ⟨_, _, hcap1, hcap2, _, _⟩ := own_heap hwt.1
      have hc0 := hd.blk.cell 0
      have hgl := hd.blk.lt
      have HNX := Lib.hid hnext
      have HD := Lib.hid hd
      have HM := Lib.hid hm
      have HWT := Lib.hid hwt
      have HLS := Lib.hid hlS
      have HSU := Lib.hid (show wr.ownsRow B 5 1 (.slice (some ⟨gs, 0, none⟩) N cs) N (Sk.map bv) from hlS ▸ hd.sure)
      have HX := Lib.hid ((((Mod.refl Nil wr).alloc (.cells #[.int .i64 x.at_, .slice (some ⟨x.b, 0, none⟩) 64 x.cap] 103))).drew)
      clear e1 e2 hcl hst hSk hnext hd hm hwt hlS hx
      unfold Wt.v at q2
      go_upto_block 1 with (fail)
      go_cut [] (fun wx => DskIs B wx g (.slice (some ⟨gs, 0, none⟩) N cs) (.slice (some ⟨gw, 0, none⟩) k0 d) wts ⟨crTo keep torn (clamp octets) s.S s.ws (k + 1), s.ws, s.left⟩ ∧ Mod (DF g (.slice (some ⟨gs, 0, none⟩) N cs) (.slice (some ⟨gw, 0, none⟩) k0 d) wts) w wx)
      case first =>
        by_cases htorn : (k : Int) = torn
        · have hb : ((k : Int) == torn) = true := by simp [htorn]
          have HT := Lib.hid htorn
          obtain ⟨t, ht, ht64⟩ : ∃ t : Nat, clamp octets = t ∧ t ≤ 64 := ⟨_, rfl, by unfold clamp; omega⟩
          have HCT := Lib.hid (show crStep keep torn (clamp octets) Sk k (x.at_, x.l) = layB Sk x.at_ (x.l.take t) by unfold crStep; rw [if_pos htorn, ht])
          have HMX := Lib.hid (show (if 64 < (if octets < 0 then (0 : Int) else octets) then (64 : Int) else if octets < 0 then 0 else octets) = (t : Int) by unfold clamp at ht; split <;> split <;> omega)
          clear htorn ht
          go_wp2_with fail
          go_region_law (go_simp; go_at_call 66; rw [HMX.out]; refine (lay_any B gs N cs x.at_ x.b x.cap t Sk x.l _ (own_keep HSU.out HX.out (fun _ _ => id)) ((Rd.of_own HWT.out.1).keep0 HX.out |>.mono fun _ _ _ => trivial) hxl hcap1 hcap2 hat (by omega) hbs).mono ?_; rintro r w2 ⟨rfl, ho2, hm2⟩; have HRD := Lib.hid (crash_round HD.out HM.out HX.out ho2 hm2 HLS.out); clear ho2 hm2)
          all_goals
            go_wp2_with fail
            all_goals
              go_meet
              case rel => exact ⟨by rw [HNX.out, HCT.out]; exact HRD.out.1, HRD.out.2⟩
        · have hb : ((k : Int) == torn) = false := by simp [htorn]
          have HT := Lib.hid htorn
          have hrd' := (HR.out.keep HM.out HS.out).keep0 ((Mod.refl Nil wr).alloc (.cells #[.int .i64 x.at_, .slice (some ⟨x.b, 0, none⟩) 64 x.cap] 103))
          by_cases hkeep : keep[k]? = some true
          · have HCT := Lib.hid (show crStep keep torn (clamp octets) Sk k (x.at_, x.l) = layB Sk x.at_ (x.l.take 64) by unfold crStep; rw [if_neg htorn, if_pos hkeep, List.take_of_length_le (by omega)])
            have hkn : k < kn := by have := (List.getElem?_eq_some_iff.1 hkeep).1; have := HKL.out; omega
            obtain ⟨ad, rfl, _, _, hck⟩ := hrd'.at_ (k := k) (u := .bool true) (by rw [List.getElem?_map, hkeep]; rfl)
            clear htorn hkeep hrd'
            go_wp2_with fail
            go_region_law (go_simp; go_at_call 66; refine (lay_any B gs N cs x.at_ x.b x.cap 64 Sk x.l _ (own_keep HSU.out HX.out (fun _ _ => id)) ((Rd.of_own HWT.out.1).keep0 HX.out |>.mono fun _ _ _ => trivial) hxl hcap1 hcap2 hat (by omega) hbs).mono ?_; rintro r w2 ⟨rfl, ho2, hm2⟩; have HRD := Lib.hid (crash_round HD.out HM.out HX.out ho2 hm2 HLS.out); clear ho2 hm2)
            all_goals
              go_wp2_with fail
              go_meet
              case rel => exact ⟨by rw [HNX.out, HCT.out]; exact HRD.out.1, HRD.out.2⟩
          · have HCT := Lib.hid (show crStep keep torn (clamp octets) Sk k (x.at_, x.l) = Sk by unfold crStep; rw [if_neg htorn, if_neg hkeep])
            by_cases hkn : k < kn
            · obtain ⟨b, hbk⟩ : ∃ b, keep[k]? = some b := ⟨_, List.getElem?_eq_getElem (by have := HKL.out; omega)⟩
              obtain rfl : b = false := by cases b <;> simp_all
              obtain ⟨ad, rfl, _, _, hck⟩ := hrd'.at_ (k := k) (u := .bool false) (by rw [List.getElem?_map, hbk]; rfl)
              clear htorn hkeep hbk hrd'
              go_wp2_with fail
              go_meet
              case rel => exact ⟨by rw [HNX.out, HCT.out]; exact HD.out.keep ((Mod.refl Nil wr).alloc _) (fun _ _ => id), HM.out.alloc _⟩
            · clear htorn hkeep hrd'
              go_wp2_with fail
              go_meet
              case rel => exact ⟨by rw [HNX.out, HCT.out]; exact HD.out.keep ((Mod.refl Nil wr).alloc _) (fun _ _ => id), HM.out.alloc _⟩
      case rest =>
        have HCUT := Lib.hid hcut
        clear hcut
        go_wp2_with fail
        go_roundw
        case rel => exact ⟨k + 1, by omega, by go_num, HCUT.out.1, HCUT.out.2⟩
        case measure => simp [intOf] <;> omega
    · have hc1' := hd.blk.cell 1
      have hc2' := hd.blk.cell 2
      have hf1 := hd.blk.frozen 1
      have hf2 := hd.blk.frozen 2
      have hgl := hd.blk.lt
      have HP := Lib.hid (fun (e : Ending) => crash_after (e := e) hd hm)
      have HE := Lib.hid (show (⟨crTo keep torn (clamp octets) s.S s.ws k, [], -1⟩ : DSt) = s.crash keep torn octets by unfold DSt.crash; rw [show s.ws.length = k by have := HL.out; omega])
      clear hd hm
      go_wp2_with fail
      go_end0
      rw [← HE.out]
      exact HP.out _
end Go.Proofs.Ytjmehamkpmimkaa
