/- Parts of the proof of StoreActs, joined: DskC DskAw Act RowA RdkW Flow RdkX. -/
import Derived.Test.YtjmehamkpmimkaaStoreActsj1
import Derived.Deep.DeepCutAuto
import Derived.Deep.CutBlock
import Derived.Deep.Grids
import Derived.BigQuiet
import Derived.Orders
namespace Go.Proofs.Ytjmehamkpmimkaa
open Go.RowKit

/-- What a crash does with a write that waits. -/
def crStep (keep : List Bool) (torn : Int) (t : Nat) (S : List UInt8) (k : Nat) (x : Nat × List UInt8) : List UInt8 :=
  if (k : Int) = torn then layB S x.1 (x.2.take t) else if keep[k]? = some true then layB S x.1 x.2 else S
def crTo (keep : List Bool) (torn : Int) (t : Nat) (S : List UInt8) (ws : List (Nat × List UInt8)) : Nat → List UInt8
  | 0 => S
  | k + 1 => match ws[k]? with | some x => crStep keep torn t (crTo keep torn t S ws k) k x | none => crTo keep torn t S ws k
def clamp (n : Int) : Nat := (min (max n 0) 64).toNat
def DSt.crash (s : DSt) (keep : List Bool) (torn octets : Int) : DSt := ⟨crTo keep torn (clamp octets) s.S s.ws s.ws.length, [], -1⟩

theorem crStep_length {keep : List Bool} {torn : Int} {t : Nat} {S : List UInt8} {k : Nat} {x : Nat × List UInt8} (h : 64 * x.1 + x.2.length ≤ S.length) : (crStep keep torn t S k x).length = S.length := by
  unfold crStep
  split
  · exact layB_length (by rw [List.length_take]; omega)
  · split
    · exact layB_length h
    · rfl

theorem crTo_length {keep : List Bool} {torn : Int} {t : Nat} {S : List UInt8} {ws : List (Nat × List UInt8)} (h : ∀ x ∈ ws, 64 * x.1 + x.2.length ≤ S.length) : ∀ k, (crTo keep torn t S ws k).length = S.length := by
  intro k
  induction k with
  | zero => rfl
  | succ k ih =>
    unfold crTo
    split
    · rename_i x hx
      rw [crStep_length (by rw [ih]; exact h x (List.mem_of_getElem? hx)), ih]
    · exact ih

theorem DskIs.sure_ {B g gs N cs : Nat} {vw : Value} {wts : List Wt} {s : DSt} {w w2 : World} {S' : List UInt8} (hd : DskIs B w g (.slice (some ⟨gs, 0, none⟩) N cs) vw wts s)
    (ho : w2.ownsRow B 5 1 (.slice (some ⟨gs, 0, none⟩) N cs) N (S'.map bv)) (hm : Mod (fun k => k = gs) w w2) (hl : s.S.length = N) : DskIs B w2 g (.slice (some ⟨gs, 0, none⟩) N cs) vw wts ⟨S', s.ws, s.left⟩ := by
  have hl' : S'.length = N := by have := ho.1; simpa using this
  have hsure := hd.sure
  rw [hl] at hsure
  obtain ⟨cur, hgs, _⟩ := own_heap hsure
  have hgs : Blk w gs 5 cur := hgs
  refine ⟨hd.blk.keep hm (fun e => hd.ne_sure (by rw [e]; rfl)), hd.low, by rw [show (⟨S', s.ws, s.left⟩ : DSt).S.length = N from hl']; exact ho, own_keep hd.waits hm (fun k hk hkg => own_blk_ne hd.waits hgs (by decide) (hkg ▸ hk)), fun x hx => ?_, hd.st, ?_, ?_, ?_⟩
  · obtain ⟨h1, h2, h3⟩ := hd.all x hx
    exact ⟨own_keep h1 hm (fun k hk hkg => h3 (by have : x.b = k := by simpa [Wt.v, Value.ownBlock] using hk
                                                  rw [this, hkg]; rfl)), by show _ ≤ S'.length; omega, h3⟩
  · show 0 < S'.length; have := hd.pos; omega
  · show S'.length ≤ _; have := hd.big; omega
  · show S'.length % 64 = 0; have := hd.mod; omega

theorem crash_after {B g : Nat} {vs vw : Value} {wts : List Wt} {s : DSt} {w w2 : World} {e : Ending} (hd : DskIs B w2 g vs vw wts s) (hm : Mod (DF g vs vw wts) w w2) :
    DskPost B w g (DF g vs vw wts) ⟨s.S, [], -1⟩ e e ((w2.setCell ⟨g, 1, none⟩ (.slice none 0 0)).setCell ⟨g, 2, none⟩ (.int .i64 (-1))) := by
  have hm3 : Mod (fun k => k = g) w2 ((w2.setCell ⟨g, 1, none⟩ (.slice none 0 0)).setCell ⟨g, 2, none⟩ (.int .i64 (-1))) := ((Mod.refl (fun k => k = g) w2).set (p := ⟨g, 1, none⟩) (.inl rfl) _).set (p := ⟨g, 2, none⟩) (.inl rfl) _
  refine ⟨rfl, DF g vs (.slice none 0 0) [], ⟨vs, .slice none 0 0, [], rfl, ?_, hd.low, own_keep hd.sure hm3 (fun k hk hkg => hd.ne_sure (hkg ▸ hk)), World.ownsRow_nil _ _ _ _, fun x hx => (by cases hx), rfl, hd.pos, hd.big, hd.mod⟩, ?_, ?_⟩
  · simpa using (hd.blk.set_ 1 (.slice none 0 0)).set_ 2 (.int .i64 (-1))
  · exact hm.trans' hm3 (fun _ _ h => h) (fun k _ hk => .inl hk)
  · rintro k (rfl | hk | hk | ⟨x, hx, _⟩)
    · exact .inl (.inl rfl)
    · exact .inl (.inr (.inl hk))
    · cases hk
    · cases hx

theorem crash_round {B g gs N cs : Nat} {vw : Value} {wts : List Wt} {s : DSt} {w wr wX w2 : World} {S' : List UInt8} (hd : DskIs B wr g (.slice (some ⟨gs, 0, none⟩) N cs) vw wts s) (hm : Mod (DF g (.slice (some ⟨gs, 0, none⟩) N cs) vw wts) w wr) (hX : Mod Nil wr wX)
    (ho : w2.ownsRow B 5 1 (.slice (some ⟨gs, 0, none⟩) N cs) N (S'.map bv)) (hm2 : Mod (fun k => k = gs) wX w2) (hl : s.S.length = N) :
    DskIs B w2 g (.slice (some ⟨gs, 0, none⟩) N cs) vw wts ⟨S', s.ws, s.left⟩ ∧ Mod (DF g (.slice (some ⟨gs, 0, none⟩) N cs) vw wts) w w2 :=
  ⟨(hd.keep hX (fun _ _ => id)).sure_ ho hm2 hl, (hm.trans' hX (H := DF g (.slice (some ⟨gs, 0, none⟩) N cs) vw wts) (fun _ _ h => h) (fun _ _ h => h.elim)).trans' hm2 (fun _ _ h => h) (fun k _ e => .inr (.inl (by rw [e]; rfl)))⟩

set_option maxHeartbeats 6400000 in
set_option maxRecDepth 100000 in
theorem dskCrash_any (B g : Nat) (F : Nat → Prop) (s : DSt) (K : Option Addr) (kn kc : Nat) (keep : List Bool) (torn octets : Int) (S0 : Nat → Prop) (w : World) (h : DskAt B w g F s) (hbig : s.ws.length ≤ 1000000)
    (hkl : keep.length = kn) (hkb : kn ≤ maxLen) (hr : Rd S0 w K (keep.map Value.bool)) (hS : ∀ k, S0 k → ¬ F k) :
    Calls Try.prog 22 #[.pointer (some ⟨g, 0, none⟩), .slice K kn kc, .int .i64 torn, .int .i64 octets] w (DskPost B w g F (s.crash keep torn octets) (.returned (.tuple #[]))) := by
  obtain ⟨vs, vw, wts, rfl, h⟩ := h
  have hc1 := h.blk.cell 1
  have hbs := h.big
  obtain ⟨gs, cs, rfl, _, _⟩ := h.sure.form h.pos
  obtain ⟨C, d, rfl, hd1, hd2⟩ := own_slice h.waits
  have hlen : wts.length = s.ws.length := by rw [h.st]; simp
  have H := Lib.hid h
  have HR := Lib.hid hr
  have HS := Lib.hid hS
  obtain ⟨k0, hk0⟩ : ∃ k0, wts.length = k0 := ⟨_, rfl⟩
  obtain ⟨N, hN⟩ : ∃ N, s.S.length = N := ⟨_, rfl⟩
  have hb0 : k0 ≤ 1000000 := by omega
  rw [hk0, hN] at hc1
  rw [hk0] at hd1
  rw [hN] at hbs
  have H' : DskIs B w g (.slice (some ⟨gs, 0, none⟩) N cs) (.slice C k0 d) wts s := by rw [hN, hk0] at h; exact h
  have HN := Lib.hid hN
  have HK := Lib.hid hk0
  have HL := Lib.hid (show k0 = s.ws.length by omega)
  rw [hN, hk0]
  have H2 := Lib.hid H'
  have HKL := Lib.hid hkl
  clear h hk0 hN hlen H H' hr hS hkl hbig
  go_enter Try.func22, Try.ntmps22
  go_wp2_with fail
  go_loopw [15] (fun iv wr => ∃ k : Nat, k ≤ k0 ∧ iv = .int .i64 k ∧ DskIs B wr g (.slice (some ⟨gs, 0, none⟩) N cs) (.slice C k0 d) wts ⟨crTo keep torn (clamp octets) s.S s.ws k, s.ws, s.left⟩ ∧ Mod (DF g (.slice (some ⟨gs, 0, none⟩) N cs) (.slice C k0 d) wts) w wr) (fun v _ => k0 - (intOf v).toNat)
  case atStart => exact ⟨0, Nat.zero_le _, rfl, H2.out, Mod.refl _ _⟩
  case round =>
    obtain ⟨k, hk, rfl, hd, hm⟩ := hrel
    by_cases hlt : k < k0
    · obtain ⟨x, hx⟩ : ∃ x, wts[k]? = some x := ⟨_, List.getElem?_eq_getElem (by have := HK.out; omega)⟩
      have hxm := List.mem_of_getElem? hx
      obtain ⟨e1, e2⟩ := flatMap_cells wts k x hx
      obtain ⟨gw, cw, hgw, _, _⟩ := hd.waits.form (by have := HK.out; omega)
      injection hgw with hC hnn hdd
      subst hC hdd
      clear hnn
      have hcl := hd.waits.cells (g := gw) rfl
      have q1 := hcl _ _ e1
      have q2 := hcl _ _ e2
      rw [Addr.add_lit, Nat.zero_add] at q1 q2
      have hst : s.ws[k]? = some (x.at_, x.l) := by rw [H2.out.st, List.getElem?_map, hx]; rfl
      obtain ⟨Sk, hSk⟩ : ∃ Sk, Sk = crTo keep torn (clamp octets) s.S s.ws k := ⟨_, rfl⟩
      have hnext : crTo keep torn (clamp octets) s.S s.ws (k + 1) = crStep keep torn (clamp octets) Sk k (x.at_, x.l) := by
        rw [crTo, hst, ← hSk]
      rw [← hSk] at hd
      have hwt := hd.all x hxm
      have hxl := wt_len hwt
      have hlS : Sk.length = N := by rw [hSk, crTo_length H2.out.fits]; exact HN.out
      have hat : 64 * x.at_ + 64 ≤ N := by have := hwt.2.1; rw [← hlS]; exact this
      obtain ⟨_, _, hcap1, hcap2, _, _⟩ := own_heap hwt.1
      have hc0 := hd.blk.cell 0
      have hgl := hd.blk.lt
      have HNX := Lib.hid hnext
      have HD := Lib.hid hd
      have HM := Lib.hid hm
      have HWT := Lib.hid hwt
      have HLS := Lib.hid hlS
      have HSU := Lib.hid (show wr.ownsRow B 5 1 (.slice (some ⟨gs, 0, none⟩) N cs) N (Sk.map bv) from hlS ▸ hd.sure)
      have HX := Lib.hid ((((Mod.refl Nil wr).alloc (.cells #[.int .i64 x.at_, .slice (some ⟨x.b, 0, none⟩) 64 x.cap] 103))).drew)
      clear e1 e2 hcl hst hSk hnext hd hm hwt hlS hx
      unfold Wt.v at q2
      go_upto_block 1 with (fail)
      go_cut [] (fun wx => DskIs B wx g (.slice (some ⟨gs, 0, none⟩) N cs) (.slice (some ⟨gw, 0, none⟩) k0 d) wts ⟨crTo keep torn (clamp octets) s.S s.ws (k + 1), s.ws, s.left⟩ ∧ Mod (DF g (.slice (some ⟨gs, 0, none⟩) N cs) (.slice (some ⟨gw, 0, none⟩) k0 d) wts) w wx)
      case first =>
        by_cases htorn : (k : Int) = torn
        · have hb : ((k : Int) == torn) = true := by simp [htorn]
          have HT := Lib.hid htorn
          obtain ⟨t, ht, ht64⟩ : ∃ t : Nat, clamp octets = t ∧ t ≤ 64 := ⟨_, rfl, by unfold clamp; omega⟩
          have HCT := Lib.hid (show crStep keep torn (clamp octets) Sk k (x.at_, x.l) = layB Sk x.at_ (x.l.take t) by unfold crStep; rw [if_pos htorn, ht])
          have HMX := Lib.hid (show (if 64 < (if octets < 0 then (0 : Int) else octets) then (64 : Int) else if octets < 0 then 0 else octets) = (t : Int) by unfold clamp at ht; split <;> split <;> omega)
          clear htorn ht
          go_wp2_with fail
          go_region_law (go_simp; go_at_call 66; rw [HMX.out]; refine (lay_any B gs N cs x.at_ x.b x.cap t Sk x.l _ (own_keep HSU.out HX.out (fun _ _ => id)) ((Rd.of_own HWT.out.1).keep0 HX.out |>.mono fun _ _ _ => trivial) hxl hcap1 hcap2 hat (by omega) hbs).mono ?_; rintro r w2 ⟨rfl, ho2, hm2⟩; have HRD := Lib.hid (crash_round HD.out HM.out HX.out ho2 hm2 HLS.out); clear ho2 hm2)
          all_goals
            go_wp2_with fail
            all_goals
              go_meet
              case rel => exact ⟨by rw [HNX.out, HCT.out]; exact HRD.out.1, HRD.out.2⟩
        · have hb : ((k : Int) == torn) = false := by simp [htorn]
          have HT := Lib.hid htorn
          have hrd' := (HR.out.keep HM.out HS.out).keep0 ((Mod.refl Nil wr).alloc (.cells #[.int .i64 x.at_, .slice (some ⟨x.b, 0, none⟩) 64 x.cap] 103))
          by_cases hkeep : keep[k]? = some true
          · have HCT := Lib.hid (show crStep keep torn (clamp octets) Sk k (x.at_, x.l) = layB Sk x.at_ (x.l.take 64) by unfold crStep; rw [if_neg htorn, if_pos hkeep, List.take_of_length_le (by omega)])
            have hkn : k < kn := by have := (List.getElem?_eq_some_iff.1 hkeep).1; have := HKL.out; omega
            obtain ⟨ad, rfl, _, _, hck⟩ := hrd'.at_ (k := k) (u := .bool true) (by rw [List.getElem?_map, hkeep]; rfl)
            clear htorn hkeep hrd'
            go_wp2_with fail
            go_region_law (go_simp; go_at_call 66; refine (lay_any B gs N cs x.at_ x.b x.cap 64 Sk x.l _ (own_keep HSU.out HX.out (fun _ _ => id)) ((Rd.of_own HWT.out.1).keep0 HX.out |>.mono fun _ _ _ => trivial) hxl hcap1 hcap2 hat (by omega) hbs).mono ?_; rintro r w2 ⟨rfl, ho2, hm2⟩; have HRD := Lib.hid (crash_round HD.out HM.out HX.out ho2 hm2 HLS.out); clear ho2 hm2)
            all_goals
              go_wp2_with fail
              go_meet
              case rel => exact ⟨by rw [HNX.out, HCT.out]; exact HRD.out.1, HRD.out.2⟩
          · have HCT := Lib.hid (show crStep keep torn (clamp octets) Sk k (x.at_, x.l) = Sk by unfold crStep; rw [if_neg htorn, if_neg hkeep])
            by_cases hkn : k < kn
            · obtain ⟨b, hbk⟩ : ∃ b, keep[k]? = some b := ⟨_, List.getElem?_eq_getElem (by have := HKL.out; omega)⟩
              obtain rfl : b = false := by cases b <;> simp_all
              obtain ⟨ad, rfl, _, _, hck⟩ := hrd'.at_ (k := k) (u := .bool false) (by rw [List.getElem?_map, hbk]; rfl)
              clear htorn hkeep hbk hrd'
              go_wp2_with fail
              go_meet
              case rel => exact ⟨by rw [HNX.out, HCT.out]; exact HD.out.keep ((Mod.refl Nil wr).alloc _) (fun _ _ => id), HM.out.alloc _⟩
            · clear htorn hkeep hrd'
              go_wp2_with fail
              go_meet
              case rel => exact ⟨by rw [HNX.out, HCT.out]; exact HD.out.keep ((Mod.refl Nil wr).alloc _) (fun _ _ => id), HM.out.alloc _⟩
      case rest =>
        have HCUT := Lib.hid hcut
        clear hcut
        go_wp2_with fail
        go_roundw
        case rel => exact ⟨k + 1, by omega, by go_num, HCUT.out.1, HCUT.out.2⟩
        case measure => simp [intOf] <;> omega
    · have hc1' := hd.blk.cell 1
      have hc2' := hd.blk.cell 2
      have hf1 := hd.blk.frozen 1
      have hf2 := hd.blk.frozen 2
      have hgl := hd.blk.lt
      have HP := Lib.hid (fun (e : Ending) => crash_after (e := e) hd hm)
      have HE := Lib.hid (show (⟨crTo keep torn (clamp octets) s.S s.ws k, [], -1⟩ : DSt) = s.crash keep torn octets by unfold DSt.crash; rw [show s.ws.length = k by have := HL.out; omega])
      clear hd hm
      go_wp2_with fail
      go_end0
      rw [← HE.out]
      exact HP.out _
end Go.Proofs.Ytjmehamkpmimkaa

namespace Go.Proofs.Ytjmehamkpmimkaa
open Go.RowKit

theorem str_append' (a b : List UInt8) : str a ++ ⟨b.toArray⟩ = str (a ++ b) := str_append a b

set_option maxHeartbeats 1600000 in
set_option maxRecDepth 100000 in
theorem noughts_any (n : Nat) (w : World) (hn : n ≤ 1000000000) :
    Calls Try.prog 45 #[.int .i64 n] w fun r w' => r = .returned (.string (str (List.replicate n 0))) ∧ Mod Nil w w' := by
  obtain ⟨i0, hi, hz0, hz1, hz2⟩ := info_parts u8_info
  have hcv : ∀ (w1 : World), w1.ownsRow w.heap.size 5 1 (.slice (some ⟨w.heap.size, 0, none⟩) n n) n ((List.replicate n (0 : UInt8)).map bv) → (convert 36 9 (.slice (some ⟨w.heap.size, 0, none⟩) n n)).run Try.prog w1 = .ok (.string (str (List.replicate n 0))) w1 :=
    fun w1 ho => conv_bytes (Rd.of_own ho) (by simp) n
  have HCV := Lib.hid hcv
  clear hcv
  go_enter Try.func45, Try.ntmps45
  go_wp2_with (at_make; refine wpList_make_full _ rfl (.tmp 3) (.tmp 3) 36 rfl w.heap.size 5 i0 (.int .u8 0) 1 Try.underlying36 hi hz0 hz1 .i64 .i64 (n : Int) (n : Int) n rfl rfl rfl rfl (by rw [hz2]; omega) (by simp only [maxLen]; omega) (Nat.le_refl _) ?_; intro w1 ho1 hg1; have hcv := HCV.out w1 (by rw [madeCells_u8] at ho1; exact ho1); have HM := Lib.hid ((Mod.of_grown hg1).mono (G := Nil) (fun _ _ h => by cases h)); clear ho1 hg1)
  go_ret
  exact ⟨rfl, HM.out⟩

theorem Rd.bytes1 (w : World) (e : TypeId) (s : ByteArray) : Rd (fun b => b = w.heap.size) (Lib.bytesWorld w e s) (some ⟨w.heap.size, 0, none⟩) (s.data.toList.map bv) := fun hn => by
  obtain ⟨ad, h0, h1, h2, h3⟩ := Rd.bytes w e s hn
  injection h0 with h0
  subst h0
  exact ⟨_, rfl, rfl, h2, h3⟩

theorem there_zero {s : DSt} (h : 64 ≤ s.S.length) : s.there 0 = true := by
  unfold DSt.there
  simp
  omega
theorem write_zero {S b : List UInt8} (hS : 64 ≤ S.length) (hb : b.length = 64) : (⟨S, [], -1⟩ : DSt).write 0 b = (⟨S, [(0, b)], -1⟩, 0) := by
  unfold DSt.write
  rw [if_pos ⟨there_zero (s := ⟨S, [], -1⟩) hS, hb⟩]
  rfl
theorem sync_zero {S b : List UInt8} : (if (⟨S, [(0, b)], -1⟩ : DSt).on = true then (⟨DSt.img ⟨S, [(0, b)], -1⟩, [], (DSt.spend ⟨S, [(0, b)], -1⟩).left⟩ : DSt) else ⟨S, [(0, b)], -1⟩) = ⟨layB S 0 b, [], -1⟩ := by
  rfl
theorem crash_zero {S b : List UInt8} : (⟨S, [(0, b)], -1⟩ : DSt).crash [] (-1) 0 = ⟨S, [], -1⟩ := by
  rfl

theorem DskPost.fin {B : Nat} {w w' : World} {g : Nat} {F : Nat → Prop} {s : DSt} {e r : Ending} (h : DskPost B w g F s e r w') : r = e ∧ ∃ F', DskAt B w' g F' s ∧ Mod F w w' ∧ ∀ k, F' k → F k ∨ w.heap.size ≤ k := h

theorem Mod.disk {w w1 w2 : World} {B g : Nat} {F : Nat → Prop} {s : DSt} (h : Mod Nil w w1) (hd : DskAt B w1 g F s) (hm : Mod F w1 w2) (hB : w.heap.size ≤ B) : Mod Nil w w2 :=
  h.trans' hm (fun _ _ h => h) (fun k hk hF => absurd hk (by have := (hd.lt k hF).1; omega))

end Go.Proofs.Ytjmehamkpmimkaa

namespace Go.Proofs.Ytjmehamkpmimkaa
open Go.RowKit

/-- An act of the laws of layer 3. -/
structure Act3 where
  kind : Int
  n : Int
  m : Int
  b : List UInt8
  keep : List Bool

/-- The cells of an act. -/
def ActAt (S : Nat → Prop) (w : World) (b off : Nat) (a : Act3) : Prop :=
  w.cell? ⟨b, off, none⟩ = some (.int .i64 a.kind) ∧ w.cell? ⟨b, off + 1, none⟩ = some (.int .i64 a.n) ∧ w.cell? ⟨b, off + 2, none⟩ = some (.int .i64 a.m) ∧
  (∃ B c, w.cell? ⟨b, off + 3, none⟩ = some (.slice B a.b.length c) ∧ a.b.length ≤ maxLen ∧ Rd S w B (a.b.map bv)) ∧
  ∃ K c, w.cell? ⟨b, off + 4, none⟩ = some (.slice K a.keep.length c) ∧ a.keep.length ≤ maxLen ∧ Rd S w K (a.keep.map Value.bool)

def ActsAt (S : Nat → Prop) (w : World) (A : Option Addr) (l : List Act3) : Prop :=
  0 < l.length → ∃ b o, A = some ⟨b, o, none⟩ ∧ S b ∧ b < w.heap.size ∧ ∀ (i : Nat) (a : Act3), l[i]? = some a → ActAt S w b (o + i * 5) a

theorem ActAt.keep_ {S F : Nat → Prop} {w w' : World} {b off : Nat} {a : Act3} (h : ActAt S w b off a) (hb : b < w.heap.size) (hs : S b) (hm : Mod F w w') (hS : ∀ b, S b → ¬ F b) : ActAt S w' b off a := by
  obtain ⟨h0, h1, h2, ⟨B, c, h3, h4, h5⟩, K, d, h6, h7, h8⟩ := h
  have hk : ∀ o, w'.cell? ⟨b, o, none⟩ = w.cell? ⟨b, o, none⟩ := fun o => hm.cell hb (hS _ hs)
  exact ⟨(hk _).trans h0, (hk _).trans h1, (hk _).trans h2, ⟨B, c, (hk _).trans h3, h4, h5.keep hm hS⟩, K, d, (hk _).trans h6, h7, h8.keep hm hS⟩

theorem ActsAt.keep {S F : Nat → Prop} {w w' : World} {A : Option Addr} {l : List Act3} (h : ActsAt S w A l) (hm : Mod F w w') (hS : ∀ b, S b → ¬ F b) : ActsAt S w' A l := fun hn => by
  obtain ⟨b, o, e, hs, hb, hf⟩ := h hn
  exact ⟨b, o, e, hs, Nat.lt_of_lt_of_le hb hm.size, fun i f hi => (hf i f hi).keep_ hb hs hm hS⟩

/-- Which acts are small. -/
def actSmall (a : Act3) : Bool := a.b.length ≤ 100 && a.keep.length ≤ 40
def actsSmall (l : List Act3) : Bool := l.length ≤ 40 && l.all actSmall

/-- What an act writes. -/
def Act3.octets (a : Act3) : List UInt8 := match a.b with | [x] => List.replicate 64 x | l => l

theorem Act3.octets_one {a : Act3} {x : UInt8} (h : a.b = [x]) : a.octets = List.replicate 64 x := by unfold Act3.octets; rw [h]
theorem Act3.octets_other {a : Act3} (h : a.b.length ≠ 1) : a.octets = a.b := by
  unfold Act3.octets
  split
  · rename_i x hx
    rw [hx] at h
    exact absurd rfl h
  · rfl

/-- The value of an act. -/
def actVal (a : Act3) (B K : Option Addr) (c d : Nat) : Value := .agg #[.int .i64 a.kind, .int .i64 a.n, .int .i64 a.m, .slice B a.b.length c, .slice K a.keep.length d]

set_option maxHeartbeats 1600000 in
set_option maxRecDepth 100000 in
theorem actOctets_any (S : Nat → Prop) (a : Act3) (B K : Option Addr) (c d : Nat) (w : World) (hl : a.b.length ≤ maxLen) (hr : Rd S w B (a.b.map bv)) (hS : ∀ k, S k → k < w.heap.size) :
    Calls Try.prog 26 #[actVal a B K c d] w fun r w' => ∃ A c', r = .returned (.slice A a.octets.length c') ∧ Rd (fun k => S k ∨ w.heap.size ≤ k) w' A (a.octets.map bv) ∧ Mod Nil w w' := by
  obtain ⟨i0, hi, hz0, hz1, hz2⟩ := info_parts u8_info
  unfold actVal
  by_cases h1 : a.b.length = 1
  · obtain ⟨x, hx⟩ : ∃ x, a.b = [x] := List.length_eq_one_iff.1 h1
    rw [Act3.octets_one hx, List.length_replicate]
    rw [hx] at hr
    obtain ⟨ad, rfl, _, hadl, hcell⟩ := hr.at_ (k := 0) (u := bv x) rfl
    rw [add_zero] at hcell
    rw [h1]
    have HBLK := Lib.hid (Blk.new w 39 #[.int .i64 a.kind, .int .i64 a.n, .int .i64 a.m, .slice (some ad) 1 c, .slice K a.keep.length d])
    have hm0 : Mod Nil w (w.alloc (.cells #[.int .i64 a.kind, .int .i64 a.n, .int .i64 a.m, .slice (some ad) 1 c, .slice K a.keep.length d] 39)) := (Mod.refl _ _).alloc _
    have HM0 := Lib.hid hm0
    have HCELL := Lib.hid ((hm0.cell (p := ad) hadl id).trans hcell)
    have hsz0 : w.heap.size < (w.alloc (.cells #[.int .i64 a.kind, .int .i64 a.n, .int .i64 a.m, .slice (some ad) 1 c, .slice K a.keep.length d] 39)).heap.size := by simp
    have HSZ := Lib.hid hsz0
    clear hr hx hcell hm0 hsz0 h1 hl
    unfold bv at HCELL
    go_enter Try.func26, Try.ntmps26
    go_wp2_with fail
    obtain ⟨w0, hw0⟩ : ∃ w0, w0 = (w.alloc (.cells #[.int .i64 a.kind, .int .i64 a.n, .int .i64 a.m, .slice (some ad) 1 c, .slice K a.keep.length d] 39)) := ⟨_, rfl⟩
    rw [← hw0] at HBLK HM0 HCELL HSZ ⊢
    clear hw0
    go_loopw [3, 4] (fun vv iv wr => ∃ (k : Nat) (v : Value), k ≤ 64 ∧ iv = .int .i64 k ∧ vv = v ∧ wr.ownsRow w.heap.size 5 1 v k ((List.replicate k x).map bv) ∧ Mod Nil w0 wr ∧ ∀ j, v.ownBlock = some j → w0.heap.size ≤ j) (fun _ v _ => 64 - (intOf v).toNat)
    case atStart => exact ⟨0, _, Nat.zero_le _, rfl, rfl, World.ownsRow_nil _ _ _ _, Mod.refl _ _, fun _ h => by cases h⟩
    case round =>
      obtain ⟨k, v, hk, rfl, rfl, ho, hm, hv⟩ := hrel
      obtain ⟨A', c', rfl, _, _⟩ := own_slice ho
      have hc3 : wr.cell? ⟨w.heap.size, 3, none⟩ = some (.slice (some ad) 1 c) := (HBLK.out.keep hm id).cell 3
      have hcx := (hm.cell (p := ad) (Nat.lt_trans hadl HSZ.out) id).trans HCELL.out
      have HO := Lib.hid ho
      have HM := Lib.hid hm
      have HV := Lib.hid hv
      clear ho hm hv
      by_cases hlt : k < 64
      · have HREP := Lib.hid (show (List.replicate k x).map bv ++ [bv x] = (List.replicate (k + 1) x).map bv by rw [List.replicate_succ', List.map_append]; rfl)
        go_wp2_with (at_builtin; refine wpList_append1' _ rfl (.tmp 15) (.tmp 20) 36 rfl w.heap.size 5 i0 (.int .u8 0) 1 Try.underlying36 hi hz0 hz1 hz2 rfl (.slice A' k c') k ((List.replicate k x).map bv) rfl (own_keep HO.out ((Mod.refl Nil wr).alloc _) (fun _ _ => id)) All _ 1 1 [bv x] rfl rfl (Rd.cells1 _ _ _) (by intro u hu; obtain rfl := List.mem_singleton.1 hu; rfl) (by omega) (by simp only [maxLen]; omega) (by have := HM.out.size; have := HSZ.out; simp; omega) ?_; intro A2 c2 w2 hown2 hmod2 hat2; have HO2 := Lib.hid hown2; have HM2 := Lib.hid ((HM.out.alloc _).trans' hmod2 (H := Nil) (fun _ _ h => h) (fun j hj hjv => absurd hj (by have := HV.out j hjv; omega))); have HV2 := Lib.hid (show ∀ j, (Value.slice A2 (k + 1) c2).ownBlock = some j → w0.heap.size ≤ j from fun j hj => (hat2 j hj).elim (HV.out j) (fun h => Nat.le_trans (HM.out.alloc _).size h)); clear hown2 hmod2 hat2)
        go_roundw
        case rel => exact ⟨k + 1, _, by omega, by go_num, rfl, by rw [← HREP.out]; exact HO2.out, HM2.out, HV2.out⟩
        case measure => simp [intOf] <;> omega
      · obtain rfl : k = 64 := by omega
        go_wp2_with fail
        go_ret
        exact ⟨_, _, rfl, (Rd.of_own HO.out).mono (fun _ _ h => .inr h), HM0.out.trans HM.out⟩
  · have hb : ((a.b.length : Int) != 1) = true := by simp; omega
    rw [Act3.octets_other h1]
    have HR := Lib.hid hr
    clear hr
    go_enter Try.func26, Try.ntmps26
    go_wp2_with fail
    go_ret
    exact ⟨_, _, rfl, ((HR.out.keep0 ((Mod.refl Nil w).alloc _)).mono fun _ _ h => .inl h), (Mod.refl _ _).alloc _⟩
end Go.Proofs.Ytjmehamkpmimkaa

namespace Go.Proofs.Ytjmehamkpmimkaa
open Go.RowKit Go.ChangeShapes Go.WideShapes Go.Deep

section
variable {H : Type} {enc : TypeId × Value → H} {w : World}

/-- A slice of octets. -/
theorem open_oct {fuel : Nat} {v : Value} {y : DataW H × List MemPlace} (h : DataW.trod enc Try.prog w 0 (fun _ => true) true fuel 36 [v] = some y) :
    ∃ (B : Option Addr) (l : List UInt8) (c : Nat), v = .slice B l.length c ∧ l.length ≤ maxLen ∧ Rd All w B (l.map bv) := by
  rcases open_ints Try.underlying36 Try.underlying5 (by kernel_rfl) h with ⟨hcs, _⟩ | ⟨x, len, c, zs, hcs, _, hl, hm, hz, hx, hcell, hwz⟩
  · injection hcs with hcs
    subst hcs
    exact ⟨none, [], 0, rfl, by simp [maxLen], Rd.nil _ _ _⟩
  · injection hcs with hcs
    subst hcs
    have hz' : zs.length = c := by simpa using hz
    have hll : ((zs.take len).map fun n => UInt8.ofNat n.toNat).length = len := by rw [List.length_map, List.length_take]; omega
    refine ⟨some x, (zs.take len).map fun n => UInt8.ofNat n.toNat, c, by rw [hll], by omega, fun hn => ?_⟩
    have hn' : 0 < len := by
      rw [List.length_map, hll] at hn
      exact hn
    have hb : x.block < w.heap.size := by
      have h0 := hcell 0 (by omega)
      rw [add_zero] at h0
      exact World.block_lt_of_cell? w x h0
    refine ⟨x, rfl, trivial, hb, fun j u hu => ?_⟩
    have hj : j < len := by
      have := (List.getElem?_eq_some_iff.1 hu).1
      rw [List.length_map, hll] at this
      exact this
    rw [hcell j (by omega), ← hu]
    have hjz : j < zs.length := by omega
    have hw := wf_u8 (hwz zs[j] (List.getElem_mem hjz))
    simp [bv, hj, List.getD, hjz]
    omega

/-- A slice of Booleans. -/
theorem open_boolsl {fuel : Nat} {v : Value} {y : DataW H × List MemPlace} (h : DataW.trod enc Try.prog w 0 (fun _ => true) true fuel 37 [v] = some y) :
    ∃ (B : Option Addr) (l : List Bool) (c : Nat), v = .slice B l.length c ∧ l.length ≤ maxLen ∧ Rd All w B (l.map Value.bool) := by
  rcases open_bools Try.underlying37 Try.underlying4 (by kernel_rfl) h with ⟨hcs, _⟩ | ⟨x, len, c, Z, hcs, _, hl, hm, _, hcell⟩
  · injection hcs with hcs
    subst hcs
    exact ⟨none, [], 0, rfl, by simp [maxLen], Rd.nil _ _ _⟩
  · injection hcs with hcs
    subst hcs
    refine ⟨some x, (List.range len).map Z, c, by simp, by simp; omega, fun hn => ?_⟩
    have hn' : 0 < len := by simpa using hn
    have hb : x.block < w.heap.size := by
      have h0 := hcell 0 (by omega)
      rw [add_zero] at h0
      exact World.block_lt_of_cell? w x h0
    refine ⟨x, rfl, trivial, hb, fun j u hu => ?_⟩
    have hj : j < len := by
      have := (List.getElem?_eq_some_iff.1 hu).1
      simpa using this
    rw [hcell j (by omega), ← hu]
    simp [hj]

end
end Go.Proofs.Ytjmehamkpmimkaa

namespace Go.Proofs.Ytjmehamkpmimkaa
open Go.RowKit

theorem str_extract (S : List UInt8) (a b : Nat) : (str S).extract a b = str ((S.drop a).take (b - a)) := by
  apply ByteArray.ext
  apply Array.toList_inj.1
  rw [Lib.extract_data]
  simp [str]

theorem str_add (a b : List UInt8) : str a ++ str b = str (a ++ b) := str_append a b

set_option maxHeartbeats 1600000 in
set_option maxRecDepth 100000 in
theorem refLay_any (S b : List UInt8) (off : Nat) (w : World) (h : off + b.length ≤ S.length) (hS : S.length ≤ 1000000000) :
    Calls Try.prog 67 #[.string (str S), .int .i64 off, .string (str b)] w fun r w' => r = .returned (.string (str (splice S off b))) ∧ ∃ k, w' = w.drewN k := by
  have hs := str_size S
  have hb := str_size b
  have e1 : (str S).extract 0 off = str (S.take off) := by rw [str_extract]; simp
  have e2 : (str S).extract (off + b.length) S.length = str (S.drop (off + b.length)) := by rw [str_extract, List.take_of_length_le (by simp)]
  have h1 : (str (S.take off)).size = off := by rw [str_size, List.length_take]; omega
  have h2 : (str (S.drop (off + b.length))).size = S.length - (off + b.length) := by rw [str_size, List.length_drop]
  have h3 : (str (S.take off) ++ str b).size = off + b.length := by rw [str_add, str_size, List.length_append, List.length_take]; omega
  have HF := Lib.hid (show str (S.take off) ++ str b ++ str (S.drop (off + b.length)) = str (splice S off b) by rw [str_add, str_add, List.append_assoc]; rfl)
  go_enter Try.func67, Try.ntmps67
  go_wp2_with (go_quiet (fail))
  go_ret
  exact ⟨congrArg (fun x => Ending.returned (.string x)) HF.out, _, rfl⟩

def rwCells (x : Nat × List UInt8) : List Value := [.int .i64 x.1, .string (str x.2)]

structure RdkIs (B : Nat) (w : World) (g : Nat) (vw : Value) (s : DSt) : Prop where
  blk : Blk w g 81 #[.string (str s.S), vw, .int .i64 s.left]
  low : B ≤ g
  waits : w.ownsRow B 106 2 vw s.ws.length (s.ws.flatMap rwCells)
  fit : ∀ x ∈ s.ws, 64 * x.1 + x.2.length ≤ s.S.length ∧ x.2.length = 64
  big : s.S.length ≤ 4194304

def RF (g : Nat) (vw : Value) (k : Nat) : Prop := k = g ∨ vw.ownBlock = some k

/-- The document's disk at g, in the blocks F. -/
def RdkAt (B : Nat) (w : World) (g : Nat) (F : Nat → Prop) (s : DSt) : Prop := ∃ vw, F = RF g vw ∧ RdkIs B w g vw s

section
variable {B g : Nat} {w w' : World} {vw : Value} {s : DSt}
theorem RdkIs.ne (h : RdkIs B w g vw s) : vw.ownBlock ≠ some g := own_blk_ne h.waits h.blk (by decide)
theorem RdkIs.keep {G : Nat → Prop} (h : RdkIs B w g vw s) (hm : Mod G w w') (hF : ∀ k, RF g vw k → ¬ G k) : RdkIs B w' g vw s :=
  ⟨h.blk.keep hm (hF g (.inl rfl)), h.low, own_keep h.waits hm (fun k hk => hF k (.inr hk)), h.fit, h.big⟩
theorem RdkIs.lt (h : RdkIs B w g vw s) : ∀ k, RF g vw k → B ≤ k ∧ k < w.heap.size := by
  rintro k (rfl | hk)
  · exact ⟨h.low, h.blk.lt⟩
  · exact h.waits.lt k hk
theorem RdkAt.keep {F G : Nat → Prop} (h : RdkAt B w g F s) (hm : Mod G w w') (hF : ∀ k, F k → ¬ G k) : RdkAt B w' g F s := by
  obtain ⟨vw, rfl, h⟩ := h
  exact ⟨vw, rfl, h.keep hm hF⟩
theorem RdkAt.keep0 {F : Nat → Prop} (h : RdkAt B w g F s) (hm : Mod Nil w w') : RdkAt B w' g F s := h.keep hm (fun _ _ => id)
theorem RdkAt.lt {F : Nat → Prop} (h : RdkAt B w g F s) : ∀ k, F k → B ≤ k ∧ k < w.heap.size := by
  obtain ⟨vw, rfl, h⟩ := h
  exact h.lt
end

/-- What a call on the document's disk leaves. -/
def RdkPost (B : Nat) (w : World) (g : Nat) (F : Nat → Prop) (s : DSt) (e : Ending) (r : Ending) (w' : World) : Prop :=
  r = e ∧ ∃ F', RdkAt B w' g F' s ∧ Mod F w w' ∧ ∀ k, F' k → F k ∨ w.heap.size ≤ k

theorem RdkIs.post {B : Nat} {w w' : World} {g : Nat} {vw : Value} {s : DSt} (h : RdkIs B w' g vw s) {e : Ending} (hm : Mod (RF g vw) w w') : RdkPost B w g (RF g vw) s e e w' :=
  ⟨rfl, _, ⟨vw, rfl, h⟩, hm, fun _ h => .inl h⟩
theorem RdkIs.left_ {B : Nat} {w : World} {g : Nat} {vw : Value} {s : DSt} (h : RdkIs B w g vw s) (n : Int) : RdkIs B (w.setCell ⟨g, 2, none⟩ (.int .i64 n)) g vw { s with left := n } :=
  ⟨by simpa using h.blk.set_ 2 (.int .i64 n), h.low, own_keep h.waits ((Mod.refl (fun k => k = g) w).set (p := ⟨g, 2, none⟩) (.inl rfl) _) (fun k hk hkg => h.ne (hkg ▸ hk)), h.fit, h.big⟩

theorem rdkThere_any (B g : Nat) (F : Nat → Prop) (s : DSt) (n : Int) (w : World) (h : RdkAt B w g F s) :
    Calls Try.prog 71 #[.pointer (some ⟨g, 0, none⟩), .int .i64 n] w fun r w' => r = .returned (.bool (s.there n)) ∧ w = w' := by
  obtain ⟨vw, rfl, h⟩ := h
  have hc0 := h.blk.cell 0
  have hs := str_size s.S
  have hb := h.big
  clear h
  unfold DSt.there
  by_cases h0 : 0 ≤ n
  · go_enter Try.func71, Try.ntmps71
    go_wp2_with fail
    go_ret
    exact ⟨ret_bool (by simp [h0]), rfl⟩
  · go_enter Try.func71, Try.ntmps71
    go_wp2_with fail
    go_ret
    exact ⟨ret_bool (by simp; omega), rfl⟩

theorem rdkOn_any (B g : Nat) (F : Nat → Prop) (s : DSt) (w : World) (h : RdkAt B w g F s) (hl : s.left ≤ 9223372036854775807) :
    Calls Try.prog 72 #[.pointer (some ⟨g, 0, none⟩)] w (RdkPost B w g F s.spend (.returned (.bool s.on))) := by
  obtain ⟨vw, rfl, h⟩ := h
  have hc2 := h.blk.cell 2
  have hf2 := h.blk.frozen 2
  have hgl := h.blk.lt
  have H := Lib.hid h
  clear h
  by_cases h0 : 0 < s.left
  · have HE := Lib.hid (show s.spend = { s with left := s.left - 1 } by simp [DSt.spend, h0])
    have e2 : s.on = true := by simp [DSt.on]; omega
    have e3 : (s.left == 0) = false := by simp; omega
    rw [e2]
    clear e2
    go_enter Try.func72, Try.ntmps72
    go_wp2_with fail
    go_ret
    rw [HE.out]
    exact (H.out.left_ _).post ((Mod.refl _ _).set (.inl (.inl rfl)) _)
  · have HE := Lib.hid (show s.spend = s by simp [DSt.spend, h0])
    by_cases h1 : s.left = 0
    · have HO := Lib.hid (show s.on = false by simp [DSt.on, h1])
      rw [h1] at hc2
      clear h1
      go_enter Try.func72, Try.ntmps72
      go_wp2_with fail
      go_ret
      rw [HE.out, HO.out]
      exact H.out.post (Mod.refl _ _)
    · have HO := Lib.hid (show s.on = true by simp [DSt.on, h1])
      have e3 : (s.left == 0) = false := by simp [h1]
      go_enter Try.func72, Try.ntmps72
      go_wp2_with fail
      go_ret
      rw [HE.out, HO.out]
      exact H.out.post (Mod.refl _ _)

theorem rdkPower_any (B g : Nat) (F : Nat → Prop) (s : DSt) (n : Int) (w : World) (h : RdkAt B w g F s) :
    Calls Try.prog 21 #[.pointer (some ⟨g, 0, none⟩), .int .i64 n] w (RdkPost B w g F { s with left := max n (-1) } (.returned (.tuple #[]))) := by
  obtain ⟨vw, rfl, h⟩ := h
  have hf2 := h.blk.frozen 2
  have hc2 := h.blk.cell 2
  have hgl := h.blk.lt
  have H := Lib.hid h
  clear h
  obtain ⟨m, hm⟩ : ∃ m, m = max n (-1) := ⟨_, rfl⟩
  rw [← hm]
  by_cases h0 : n < 0
  · obtain rfl : m = -1 := by omega
    clear hm
    go_enter Try.func21, Try.ntmps21
    go_wp2_with fail
    go_end0
    exact ((H.out.left_ n).left_ (-1)).post (((Mod.refl _ _).set (.inl (.inl rfl)) _).set (.inl (.inl rfl)) _)
  · obtain rfl : m = n := by omega
    clear hm
    go_enter Try.func21, Try.ntmps21
    go_wp2_with fail
    go_end0
    exact (H.out.left_ _).post ((Mod.refl _ _).set (.inl (.inl rfl)) _)

set_option maxHeartbeats 1600000 in
set_option maxRecDepth 100000 in
theorem rdkNew_any (n : Nat) (w : World) (hn : n ≤ 65536) :
    Calls Try.prog 15 #[.int .i64 n] w fun r w' => ∃ g F, r = .returned (.pointer (some ⟨g, 0, none⟩)) ∧ RdkAt w.heap.size w' g F ⟨List.replicate (64 * n) 0, [], -1⟩ ∧ Mod Nil w w' := by
  have hw64 : IntKind.i64.wrap (64 * (n : Int)) = ((64 * n : Nat) : Int) := by rw [IntWalk.i64_in _ (by omega)]; omega
  obtain ⟨Z, hZ⟩ : ∃ Z, Z = List.replicate (64 * n) (0 : UInt8) := ⟨_, rfl⟩
  have hZl : Z.length = 64 * n := by rw [hZ]; simp
  have HC := Lib.hid (noughts_any (64 * n) w (by omega))
  rw [← hZ] at HC ⊢
  have HZL := Lib.hid hZl
  clear hZ hZl
  go_enter Try.func15, Try.ntmps15
  go_wp2_with fail
  refine HC.out.mono ?_
  rintro r w1 ⟨rfl, hm1⟩
  have HM := Lib.hid hm1
  clear hm1
  go_wp2_with fail
  go_ret
  exact ⟨_, _, rfl, ⟨.slice none 0 0, rfl, Blk.new _ _ _, HM.out.size, World.ownsRow_nil _ _ _ _, fun x hx => (by cases hx), by show Z.length ≤ _; have := HZL.out; omega⟩, HM.out.alloc _⟩

/-- append of elements of any number of cells. -/
theorem wpList_append_k {P : Program} (w : World) {ops : Array Oper} {rest : List Oper} {o : Oper} {a : Act} {Q : Exit → Act → World → Prop} (hgd : o.guard = none) (s x : Operand) (t : TypeId)
    (ho : o.op = .call { callee := .builtin .append, args := #[s, x], argTypes := #[t, t] })
    (base : Nat) (e : TypeId) (i : TypeInfo) (z : Value) (size bytes : Nat) (ht : P.underlying t = some (.slice e)) (hi : P.info? e = some i) (hz : i.zero = some z)
    (hsize : i.size = size) (hby : i.bytes = bytes) (hzs : z.cells.size = size) (hsz : 0 < size)
    (v : Value) (n : Nat) (xs : List Value) (hs : a.eval s = v) (hown : w.ownsRow base e size v n xs)
    (A : Option Addr) (m c : Nat) (news : List Value) (hx : a.eval x = .slice A m c) (hl : news.length = m * size) (hr : 0 < m → ∃ ad, A = some ad ∧ ∀ j u, news[j]? = some u → w.cell? (ad.add j) = some u) (h1 : ∀ u ∈ news, u.oneCell' = true)
    (hbytes : (n + m) * bytes ≤ 140737488355328) (h63 : n + m ≤ maxLen) (hbase : base ≤ w.heap.size)
    (h : ∀ A' c' w', w'.ownsRow base e size (.slice A' (n + m) c') (n + m) (xs ++ news) → Mod (fun k => v.ownBlock = some k) w w' → (∀ k, (Value.slice A' (n + m) c').ownBlock = some k → v.ownBlock = some k ∨ w.heap.size ≤ k) → wpList P ops Q rest (a.put o.dst (.slice A' (n + m) c')) w') : wpList P ops Q (o :: rest) a w := by
  refine wpList_plain hgd fun K hK => ?_
  rcases A with _ | ad
  · have hm : m = 0 := by
      rcases Nat.eq_zero_or_pos m with h0 | h0
      · exact h0
      · obtain ⟨_, h, _⟩ := hr h0
        cases h
    subst hm
    have hn : news = [] := List.eq_nil_of_length_eq_zero (by omega)
    subst hn
    have hrun := run_append_of_nil (P := P) w base t o.type e i size ht hi v n xs hown c
    obtain ⟨A', c', rfl, _, _⟩ := own_slice hown
    unfold Oper.wp execOp
    simp only [ho, resolve, invoke, builtin, Sem.run_bind, Sem.run_pure, Result.andThen_ok, List.map_toArray, List.map_cons, List.map_nil, hs, hx, hrun]
    exact hK _ _ (h A' c' w (by simpa using hown) (Mod.refl _ _) (fun k hk => .inl (by simpa using hk)))
  · have hcell : ∀ j u, news[j]? = some u → w.cell? (ad.add j) = some u := by
      intro j u hu
      have hlt := (List.getElem?_eq_some_iff.1 hu).1
      have hm : 0 < m := by
        rcases Nat.eq_zero_or_pos m with h0 | h0
        · subst h0; omega
        · exact h0
      obtain ⟨ad', h0, hc⟩ := hr hm
      injection h0 with h0
      subst h0
      exact hc j u hu
    obtain ⟨v', w', hrun, h2, h3, _, h5⟩ := run_append_own_at (P := P) w base t o.type e i z size bytes ht hi hz hsize hby hzs hsz v n xs hown ad m c news hl hcell h1 h63 hbytes hbase
    obtain ⟨A', c', rfl, _, _⟩ := own_slice h2
    unfold Oper.wp execOp
    simp only [ho, resolve, invoke, builtin, Sem.run_bind, Sem.run_pure, Result.andThen_ok, List.map_toArray, List.map_cons, List.map_nil, hs, hx, hrun]
    refine hK _ _ (h A' c' w' h2 (Mod.of_grown h3) (fun k hk => ?_))
    rcases h5 with h5 | h5
    · exact .inl (h5 ▸ hk)
    · rw [h5] at hk
      injection hk with hk
      exact .inr (by omega)

end Go.Proofs.Ytjmehamkpmimkaa

namespace Go.Proofs.Ytjmehamkpmimkaa
open Go.RowKit

section
variable {P : Program}

/-- What is known of a slot: of the region's own by V, of another what stood there. -/
def Known (V : Tmp → Value → World → Prop) (D : List Tmp) (a0 a : Act) (w : World) (t : Tmp) : Prop :=
  if t ∈ D then V t (a.eval (.tmp t)) w else a.eval (.tmp t) = a0.eval (.tmp t)

def KnownAll (V : Tmp → Value → World → Prop) (D : List Tmp) (a0 a : Act) (w : World) : List Tmp → Prop
  | [] => True
  | t :: r => Known V D a0 a w t ∧ KnownAll V D a0 a w r

theorem knownAll_of {V : Tmp → Value → World → Prop} {D : List Tmp} {a0 a : Act} {w : World} : ∀ (l : List Tmp), (∀ t, t ∈ l → Known V D a0 a w t) → KnownAll V D a0 a w l
  | [], _ => trivial
  | t :: r, h => ⟨h t (by simp), knownAll_of r fun u hu => h u (by simp [hu])⟩

/-- What is asked of one operation. -/
def FlowOp (P : Program) (ops : Array Oper) (V : Tmp → Value → World → Prop) (R : World → World → Prop) (Q : Exit → Act → World → Prop) (D : List Tmp) (a0 : Act) (w0 : World) (o : Oper) : Prop :=
  ∀ (a : Act) (w : World), R w0 w → KnownAll V D a0 a w (o.looksAt ops) →
    match o.guard with
    | none => o.wp P a w (fun a' w' => ∃ v, a' = a.put o.dst v ∧ R w w' ∧ ∀ d, o.dst = some d → V d v w') Q
    | some (j, want) =>
      (a.eval (.tmp (((ops[j]?).bind (·.dst)).getD 0)) = .bool want → o.wp P a w (fun a' w' => ∃ v, a' = a.put o.dst v ∧ R w w' ∧ ∀ d, o.dst = some d → V d v w') Q) ∧
      (a.eval (.tmp (((ops[j]?).bind (·.dst)).getD 0)) ≠ .bool want → ∀ d, o.dst = some d → V d undef w)

def FlowAll (P : Program) (ops : Array Oper) (V : Tmp → Value → World → Prop) (R : World → World → Prop) (Q : Exit → Act → World → Prop) (D : List Tmp) (a0 : Act) (w0 : World) : List Oper → Prop
  | [] => True
  | o :: r => FlowOp P ops V R Q D a0 w0 o ∧ FlowAll P ops V R Q D a0 w0 r

theorem flowAll_at {ops : Array Oper} {V : Tmp → Value → World → Prop} {R : World → World → Prop} {Q : Exit → Act → World → Prop} {D : List Tmp} {a0 : Act} {w0 : World} :
    ∀ (l : List Oper), FlowAll P ops V R Q D a0 w0 l → ∀ o, o ∈ l → FlowOp P ops V R Q D a0 w0 o
  | [], _, _, h => by cases h
  | x :: r, hf, o, h => by
    rcases List.mem_cons.1 h with rfl | h
    · exact hf.1
    · exact flowAll_at r hf.2 o h

/-- The region's form: its slots are D, each once, within n; what an operation looks at and the region writes is told by an edge; edges go back. -/
def flowOk (ops : Array Oper) (D : List Tmp) (n : Nat) : Bool :=
  (ops.toList.filterMap (·.dst) == D) && D.all (· < n) && decide D.Nodup &&
  ops.toList.zipIdx.all fun (o, i) =>
    (o.after.toList.all fun e => !Region.binds .any e || e.on < i) &&
    ((o.looksAt ops).all fun t => !D.contains t || o.after.toList.any fun e => Region.binds .any e && ((ops[e.on]?).bind (·.dst) == some t)) &&
    (match o.guard with | none => true | some (j, _) => ((ops[j]?).bind (·.dst)).isSome)

theorem Act.eval_put_same {a : Act} {d : Tmp} (v : Value) (h : d < a.tmps.size) : (a.put (some d) v).eval (.tmp d) = v := by
  simp [Act.eval, Act.put, h]
theorem Act.eval_put_ne {a : Act} {d t : Tmp} (v : Value) (h : d ≠ t) : (a.put (some d) v).eval (.tmp t) = a.eval (.tmp t) := by
  simp [Act.eval, Act.put, Array.getElem?_setIfInBounds_ne h]
theorem Act.size_put (a : Act) (d : Option Tmp) (v : Value) : (a.put d v).tmps.size = a.tmps.size := by
  cases d <;> simp [Act.put]

structure FlowInv (ops : Array Oper) (V : Tmp → Value → World → Prop) (R : World → World → Prop) (a0 : Act) (w0 : World) (listed : Array Bool) (a : Act) (w : World) : Prop where
  lsize : listed.size = ops.size
  world : R w0 w
  defers : a.defers = a0.defers
  size : a.tmps.size = a0.tmps.size
  out : ∀ t, (∀ j o, ops[j]? = some o → o.dst = some t → listed.getD j false = false) → a.eval (.tmp t) = a0.eval (.tmp t)
  inn : ∀ j o t, ops[j]? = some o → o.dst = some t → listed.getD j false = true → V t (a.eval (.tmp t)) w

theorem getD_set_same {l : Array Bool} {i : Nat} (b : Bool) (h : i < l.size) : (l.setIfInBounds i true).getD i b = true := by simp [h]
theorem getD_set_other {l : Array Bool} {i j : Nat} (b : Bool) (h : i ≠ j) : (l.setIfInBounds i true).getD j b = l.getD j b := by
  simp [Array.getD_eq_getD_getElem?, Array.getElem?_setIfInBounds_ne h]

theorem putAll_eval (vs : Tmp → Value) : ∀ (D : List Tmp) (a : Act) (t : Tmp), D.Nodup → (∀ d, d ∈ D → d < a.tmps.size) →
    (D.foldl (fun a d => a.put (some d) (vs d)) a).eval (.tmp t) = (if t ∈ D then vs t else a.eval (.tmp t)) ∧ (D.foldl (fun a d => a.put (some d) (vs d)) a).tmps.size = a.tmps.size ∧ (D.foldl (fun a d => a.put (some d) (vs d)) a).defers = a.defers
  | [], a, t, _, _ => by simp
  | d :: D, a, t, hn, hs => by
    obtain ⟨hd, hn'⟩ := List.nodup_cons.1 hn
    have h := putAll_eval vs D (a.put (some d) (vs d)) t hn' (fun e he => by rw [Act.size_put]; exact hs e (by simp [he]))
    refine ⟨?_, by rw [List.foldl_cons, h.2.1, Act.size_put], by rw [List.foldl_cons, h.2.2]; rfl⟩
    rw [List.foldl_cons, h.1]
    by_cases htd : t = d
    · subst htd
      rw [if_neg hd, if_pos (by simp), Act.eval_put_same _ (hs t (by simp))]
    · by_cases htD : t ∈ D
      · rw [if_pos htD, if_pos (by simp [htD])]
      · rw [if_neg htD, if_neg (by simp [htd, htD]), Act.eval_put_ne _ (Ne.symm htd)]

theorem act_ext {a b : Act} (hs : a.tmps.size = b.tmps.size) (hd : a.defers = b.defers) (h : ∀ t, a.eval (.tmp t) = b.eval (.tmp t)) : a = b := by
  obtain ⟨at_, ad⟩ := a
  obtain ⟨bt, bd⟩ := b
  simp only at hs hd
  subst hd
  congr 1
  apply Array.ext hs
  intro i h1 h2
  have := h i
  simpa [Act.eval, h1, h2] using this

theorem flow_any {ops : Array Oper} {V : Tmp → Value → World → Prop} {R : World → World → Prop} {Q : Exit → Act → World → Prop} {D : List Tmp} {a0 : Act} {w0 : World}
    (hok : flowOk ops D a0.tmps.size = true) (hrefl : ∀ a, R a a) (htrans : ∀ a b c, R a b → R b c → R a c) (hst : ∀ t v w w', V t v w → R w w' → V t v w')
    (hops : FlowAll P ops V R Q D a0 w0 ops.toList)
    (hfin : ∀ w' (vs : Tmp → Value), R w0 w' → (∀ t, t ∈ D → V t (vs t) w') → Q .normal (D.foldl (fun a d => a.put (some d) (vs d)) a0) w') :
    ∀ (fuel : Nat) (listed : Array Bool) (a : Act) (w : World), FlowInv ops V R a0 w0 listed a w → (∀ j, j < ops.size → listed.getD j false = false → 0 < fuel) → listed.toList.count false ≤ fuel → wpAny P .any ops Q fuel listed a w := by
  simp only [flowOk, Bool.and_eq_true, beq_iff_eq, decide_eq_true_eq, List.all_eq_true] at hok
  obtain ⟨⟨⟨hdst, hlt⟩, hnd⟩, hform⟩ := hok
  have form : ∀ i o, ops[i]? = some o → (∀ e ∈ o.after, Region.binds .any e = true → e.on < i) ∧ (∀ t ∈ o.looksAt ops, t ∈ D → ∃ e ∈ o.after, Region.binds .any e = true ∧ (ops[e.on]?).bind (·.dst) = some t) ∧ (∀ j b, o.guard = some (j, b) → ((ops[j]?).bind (·.dst)).isSome = true) := by
    intro i o ho
    have hmem : (o, i) ∈ ops.toList.zipIdx := by
      rw [List.mk_mem_zipIdx_iff_getElem?, Array.getElem?_toList]
      exact ho
    have h := hform (o, i) hmem
    simp only [Bool.and_eq_true, Bool.or_eq_true, Bool.not_eq_true', decide_eq_true_eq, List.any_eq_true, beq_iff_eq] at h
    refine ⟨fun e he hb => ?_, fun t ht htD => ?_, fun j b hg => ?_⟩
    · rcases h.1.1 e (Array.mem_toList_iff.2 he) with h' | h'
      · rw [hb] at h'; cases h'
      · exact h'
    · rcases h.1.2 t ht with h' | h'
      · have : D.contains t = true := List.contains_iff_mem.2 htD
        rw [this] at h'; cases h'
      · obtain ⟨e, he, hb, hd⟩ := h'
        exact ⟨e, Array.mem_toList_iff.1 he, hb, hd⟩
    · have h2 := h.2
      rw [hg] at h2
      exact h2
  have memD : ∀ t, t ∈ D ↔ ∃ (j : Nat) (o : Oper), ops[j]? = some o ∧ o.dst = some t := by
    intro t
    rw [← hdst, List.mem_filterMap]
    constructor
    · rintro ⟨o, ho, hd⟩
      obtain ⟨j, hj⟩ := List.getElem?_of_mem ho
      exact ⟨j, o, by rw [← Array.getElem?_toList]; exact hj, hd⟩
    · rintro ⟨j, o, ho, hd⟩
      exact ⟨o, Array.mem_toList_iff.2 (Array.mem_of_getElem? ho), hd⟩
  have uniq : ∀ (i j : Nat) (o o' : Oper) (t : Tmp), ops[i]? = some o → ops[j]? = some o' → o.dst = some t → o'.dst = some t → i = j := by
    have key : ∀ (l : List Oper), (l.filterMap (·.dst)).Nodup → ∀ (i j : Nat) (o o' : Oper) (t : Tmp), l[i]? = some o → l[j]? = some o' → o.dst = some t → o'.dst = some t → i = j := by
      intro l
      induction l with
      | nil => intro _ i j o o' t h; simp at h
      | cons x l ih =>
        intro hn i j o o' t hi hj hd hd'
        have hn' : (l.filterMap (·.dst)).Nodup := by
          cases hx : x.dst with
          | none => rw [List.filterMap_cons_none hx] at hn; exact hn
          | some d => rw [List.filterMap_cons_some hx] at hn; exact (List.nodup_cons.1 hn).2
        have hno : ∀ (k : Nat) (y : Oper), x.dst = some t → l[k]? = some y → y.dst = some t → False := by
          intro k y hx hk hy
          rw [List.filterMap_cons_some hx] at hn
          exact (List.nodup_cons.1 hn).1 (List.mem_filterMap.2 ⟨y, List.mem_of_getElem? hk, hy⟩)
        match i, j, hi, hj with
        | 0, 0, _, _ => rfl
        | 0, j + 1, hi, hj =>
          simp only [List.getElem?_cons_zero, Option.some.injEq] at hi
          simp only [List.getElem?_cons_succ] at hj
          subst hi
          exact (hno j o' hd hj hd').elim
        | i + 1, 0, hi, hj =>
          simp only [List.getElem?_cons_zero, Option.some.injEq] at hj
          simp only [List.getElem?_cons_succ] at hi
          subst hj
          exact (hno i o hd' hi hd).elim
        | i + 1, j + 1, hi, hj =>
          simp only [List.getElem?_cons_succ] at hi hj
          rw [ih hn' i j o o' t hi hj hd hd']
    intro i j o o' t hi hj
    exact key ops.toList (by rw [hdst]; exact hnd) i j o o' t (by rw [Array.getElem?_toList]; exact hi) (by rw [Array.getElem?_toList]; exact hj)
  -- where nothing may come up, all has
  have done_ : ∀ listed : Array Bool, listed.size = ops.size → Region.ready .any ops listed = [] → ∀ j, j < ops.size → listed.getD j false = true := by
    intro listed hls hr j
    induction j using Nat.strongRecOn with
    | _ j ih =>
      intro hj
      by_cases hl : listed.getD j false = true
      · exact hl
      · exfalso
        have hmem : j ∈ Region.ready .any ops listed := by
          refine mem_ready.2 ⟨?_, ops[j], Array.getElem?_eq_getElem hj, fun e he hb => ?_⟩
          · have : j < listed.size := by omega
            simp [this] at hl ⊢
            exact hl
          · have hon := (form j _ (Array.getElem?_eq_getElem hj)).1 e he hb
            exact ih e.on hon (by omega)
        rw [hr] at hmem
        cases hmem
  -- the end
  have fin_ : ∀ (listed : Array Bool) (a : Act) (w : World), FlowInv ops V R a0 w0 listed a w → (∀ j, j < ops.size → listed.getD j false = true) → Q .normal a w := by
    intro listed a w inv hall
    have hV : ∀ t, t ∈ D → V t (a.eval (.tmp t)) w := by
      intro t ht
      obtain ⟨j, o, ho, hd⟩ := (memD t).1 ht
      exact inv.inn j o t ho hd (hall j (Array.getElem?_eq_some_iff.1 ho).1)
    have h := hfin w (fun t => a.eval (.tmp t)) inv.world hV
    have e : D.foldl (fun b d => b.put (some d) (a.eval (.tmp d))) a0 = a := by
      have hp := fun t => putAll_eval (fun d => a.eval (.tmp d)) D a0 t hnd (fun d hd => by simpa using hlt d hd)
      refine act_ext (by rw [(hp 0).2.1, inv.size]) (by rw [(hp 0).2.2, inv.defers]) fun t => ?_
      rw [(hp t).1]
      split
      · rfl
      · rename_i ht
        refine (inv.out t fun j o ho hd => ?_).symm
        exact (ht ((memD t).2 ⟨j, o, ho, hd⟩)).elim
    rw [e] at h
    exact h
  intro fuel
  induction fuel with
  | zero =>
    intro listed a w inv h0 hc
    have hall : ∀ j, j < ops.size → listed.getD j false = true := by
      intro j hj
      by_cases hl : listed.getD j false = true
      · exact hl
      · exact absurd (h0 j hj (by simpa using hl)) (by omega)
    refine ⟨?_, fin_ listed a w inv hall⟩
    rcases hr : Region.ready .any ops listed with _ | ⟨i, r⟩
    · rfl
    · exfalso
      have hi : i ∈ Region.ready .any ops listed := by rw [hr]; simp
      obtain ⟨hl, o, ho, _⟩ := mem_ready.1 hi
      have hil : i < ops.size := (Array.getElem?_eq_some_iff.1 ho).1
      have := hall i hil
      have hil' : i < listed.size := by rw [inv.lsize]; exact hil
      simp [hil'] at hl this
      rw [hl] at this
      cases this
  | succ fuel ih =>
    intro listed a w inv _ hc
    refine ⟨fun hr => fin_ listed a w inv (done_ listed inv.lsize hr), fun i hi => ?_⟩
    obtain ⟨hl, o, ho, hedges⟩ := mem_ready.1 hi
    have hio : i < ops.size := (Array.getElem?_eq_some_iff.1 ho).1
    have hil : i < listed.size := by rw [inv.lsize]; exact hio
    have hlf : listed.getD i false = false := by simp [hil] at hl ⊢; exact hl
    obtain ⟨hback, hlook, hguard⟩ := form i o ho
    have hk : KnownAll V D a0 a w (o.looksAt ops) := knownAll_of _ fun t ht => by
      unfold Known
      split
      · rename_i htD
        obtain ⟨e, he, hb, hd⟩ := hlook t ht htD
        obtain ⟨oj, hoj, hdj⟩ := Option.bind_eq_some_iff.1 hd
        exact inv.inn e.on oj t hoj hdj (hedges e he hb)
      · rename_i htD
        exact inv.out t fun j oj hoj hdj => (htD ((memD t).2 ⟨j, oj, hoj, hdj⟩)).elim
    have hop := flowAll_at ops.toList hops o (Array.mem_toList_iff.2 (Array.mem_of_getElem? ho)) a w inv.world hk
    have hcount : (listed.setIfInBounds i true).toList.count false ≤ fuel := by
      have e : listed.toList = listed.toList.take i ++ false :: listed.toList.drop (i + 1) := by
        have hi2 : i < listed.toList.length := by simpa using hil
        have hg : listed.toList[i] = false := by
          simp [hil] at hlf
          simpa using hlf
        rw [← hg]
        conv => lhs; rw [← List.take_append_drop i listed.toList, List.drop_eq_getElem_cons hi2]
      have e' : (listed.setIfInBounds i true).toList = listed.toList.take i ++ true :: listed.toList.drop (i + 1) := by
        rw [Array.toList_setIfInBounds, List.set_eq_take_append_cons_drop, if_pos (by simpa using hil)]
      rw [e] at hc
      rw [e']
      simp only [List.count_append, List.count_cons] at hc ⊢
      simp at hc ⊢
      omega
    have step : ∀ v w', R w w' → (∀ d, o.dst = some d → V d v w') → wpAny P .any ops Q fuel (listed.setIfInBounds i true) (a.put o.dst v) w' := by
      intro v w' hR hv
      have hinv : FlowInv ops V R a0 w0 (listed.setIfInBounds i true) (a.put o.dst v) w' := by
        refine ⟨by simp [inv.lsize], htrans _ _ _ inv.world hR, ?_, by rw [Act.size_put, inv.size], ?_, ?_⟩
        · cases h : o.dst <;> simp [Act.put, inv.defers]
        · intro t ht
          cases hd : o.dst with
          | none =>
            refine inv.out t fun j oj hoj hdj => ?_
            have hji : i ≠ j := fun e => by
              subst e
              rw [ho] at hoj
              injection hoj with hoj
              subst hoj
              rw [hd] at hdj
              cases hdj
            have := ht j oj hoj hdj
            rwa [getD_set_other false hji] at this
          | some d =>
            have htd : d ≠ t := fun e => by
              subst e
              have := ht i o ho hd
              rw [getD_set_same false hil] at this
              cases this
            rw [Act.eval_put_ne _ htd]
            refine inv.out t fun j oj hoj hdj => ?_
            have hji : i ≠ j := fun e => by
              subst e
              rw [ho] at hoj
              injection hoj with hoj
              subst hoj
              rw [hd] at hdj
              injection hdj with hdj
              exact htd hdj
            have := ht j oj hoj hdj
            rwa [getD_set_other false hji] at this
        · intro j oj t hoj hdj hlj
          by_cases hji : i = j
          · subst hji
            rw [ho] at hoj
            injection hoj with hoj
            subst hoj
            rw [hdj, Act.eval_put_same _ (by rw [inv.size]; have := hlt t ((memD t).2 ⟨i, o, ho, hdj⟩); simpa using this)]
            exact hv t hdj
          · rw [getD_set_other false hji] at hlj
            have hvj := hst t _ _ _ (inv.inn j oj t hoj hdj hlj) hR
            cases hd : o.dst with
            | none => exact hvj
            | some d =>
              have : d ≠ t := fun e => by
                subst e
                exact hji (uniq i j o oj d ho hoj hd hdj)
              rw [Act.eval_put_ne _ this]
              exact hvj
      refine ih (listed.setIfInBounds i true) (a.put o.dst v) w' hinv (fun j hj hlj => ?_) hcount
      rcases Nat.eq_zero_or_pos fuel with h0 | h0
      · exfalso
        have hz : (listed.setIfInBounds i true).toList.count false = 0 := by omega
        rw [List.count_eq_zero] at hz
        have hjl : j < (listed.setIfInBounds i true).size := by rw [Array.size_setIfInBounds, inv.lsize]; exact hj
        refine hz ?_
        have hget : (listed.setIfInBounds i true)[j] = false := by
          rw [Array.getD_eq_getD_getElem?, Array.getElem?_eq_getElem hjl] at hlj
          simpa using hlj
        rw [← hget]
        exact Array.mem_toList_iff.2 (Array.getElem_mem hjl)
      · exact h0
    unfold wpOp
    simp only [ho]
    cases hg : o.guard with
    | none =>
      rw [hg] at hop
      simp only [Region.wanted, hg, if_true]
      refine .inl (Oper.wp_mono ?_ hop)
      rintro a' w' ⟨v, rfl, hR, hv⟩
      exact step v w' hR hv
    | some jb =>
      obtain ⟨j, b⟩ := jb
      rw [hg] at hop
      have hsome := hguard j b hg
      obtain ⟨gd, hgd⟩ := Option.isSome_iff_exists.1 hsome
      dsimp only at hop
      rw [hgd] at hop
      simp only [Option.getD_some] at hop
      have hy : yielded ops a.tmps j = (match a.tmps[gd]? with | some (.bool c) => some c | _ => none) := by
        unfold yielded
        rw [hgd]
        rfl
      by_cases hgv : a.eval (.tmp gd) = .bool b
      · have hop := hop.1 hgv
        have hgs : gd < a.tmps.size := by
          rcases Nat.lt_or_ge gd a.tmps.size with h | h
          · exact h
          · simp [Act.eval, Array.getElem?_eq_none h, undef] at hgv
        have : a.tmps[gd]? = some (.bool b) := by
          simp [Act.eval, hgs] at hgv
          rw [Array.getElem?_eq_getElem hgs, hgv]
        have hw : Region.wanted o (yielded ops a.tmps) = true := by
          unfold Region.wanted
          rw [hg]
          show (yielded ops a.tmps j == some b) = true
          rw [hy, this]
          simp
        rw [if_pos hw]
        refine .inl (Oper.wp_mono ?_ hop)
        rintro a' w' ⟨v, rfl, hR, hv⟩
        exact step v w' hR hv
      · have hop := hop.2 hgv
        have : (yielded ops a.tmps j == some b) = false := by
          rw [hy]
          rcases hx : a.tmps[gd]? with _ | x
          · rfl
          · cases x <;> try rfl
            rename_i c
            simp only [beq_eq_false_iff_ne, ne_eq, Option.some.injEq]
            intro hcb
            subst hcb
            refine hgv ?_
            simp [Act.eval, hx]
        have hw : ¬ Region.wanted o (yielded ops a.tmps) = true := by
          unfold Region.wanted
          rw [hg]
          show ¬ (yielded ops a.tmps j == some b) = true
          rw [this]
          simp
        rw [if_neg hw]
        exact step undef w (hrefl w) hop

/-- A region that draws its order, operation by operation. -/
theorem wp_flow {id : Nat} {ops : List Oper} {a0 : Act} {w : World} {Q : Exit → Act → World → Prop} (hm : P.follows .mixedOrders = true)
    (D : List Tmp) (V : Tmp → Value → World → Prop) (R : World → World → Prop)
    (hok : flowOk ops.toArray D a0.tmps.size = true) (hrefl : ∀ a, R a a) (htrans : ∀ a b c, R a b → R b c → R a c) (hst : ∀ t v w w', V t v w → R w w' → V t v w')
    (hops : FlowAll P ops.toArray V R Q D a0 w.drew ops)
    (hfin : ∀ w' (vs : Tmp → Value), R w.drew w' → (∀ t, t ∈ D → V t (vs t) w') → Q .normal (D.foldl (fun a d => a.put (some d) (vs d)) a0) w') :
    (Code.region id ops.toArray true).wp P Q a0 w := by
  refine wp_region_any hm ?_
  refine flow_any (R := R) (V := V) (D := D) (a0 := a0) (w0 := w.drew) hok hrefl htrans hst (by simpa using hops) hfin _ _ _ _ ?_ ?_ ?_
  · refine ⟨by simp, hrefl _, rfl, rfl, fun _ _ => rfl, fun j o t ho hd hl => ?_⟩
    simp [Array.getD_eq_getD_getElem?, Array.getElem?_replicate] at hl
    split at hl <;> simp at hl
  · intro j hj _
    omega
  · simp

/-! ### the same with a list of slots and of what is known of them -/

/-- What is known of a slot, whatever else may turn by R. -/
structure St (R : World → World → Prop) where
  p : Value → World → Prop
  st : ∀ v w w', p v w → R w w' → p v w'

/-- It is this value. -/
def St.is {R : World → World → Prop} (v0 : Value) : St R := ⟨fun v _ => v = v0, fun _ _ _ h _ => h⟩
/-- It is of this form, and so much is known of it. -/
def St.ex {R : World → World → Prop} {α : Type} (f : α → Value) (q : α → World → Prop) (hq : ∀ x w w', q x w → R w w' → q x w') : St R :=
  ⟨fun v w => ∃ x, v = f x ∧ q x w, fun _ _ _ ⟨x, h1, h2⟩ k => ⟨x, h1, hq x _ _ h2 k⟩⟩

def slot {α : Type} : List (Tmp × α) → Tmp → Option α
  | [], _ => none
  | (k, x) :: r, t => if k = t then some x else slot r t

theorem slot_mem {α : Type} : ∀ (l : List (Tmp × α)) (t : Tmp), t ∈ l.map (·.1) ↔ (slot l t).isSome = true
  | [], t => by simp [slot]
  | (k, x) :: r, t => by
    have ih := slot_mem r t
    rw [List.map_cons, List.mem_cons, ih, slot]
    by_cases h : k = t
    · simp [h]
    · simp [h, Ne.symm h]

def Holds {R : World → World → Prop} (VS : List (Tmp × St R)) (v : Value) (w : World) (t : Tmp) : Prop :=
  match slot VS t with | some s => s.p v w | none => True

def Seen {R : World → World → Prop} (VS : List (Tmp × St R)) (a0 a : Act) (w : World) : List Tmp → Prop
  | [] => True
  | t :: r => (match slot VS t with | some s => s.p (a.eval (.tmp t)) w | none => a.eval (.tmp t) = a0.eval (.tmp t)) ∧ Seen VS a0 a w r

/-- What an operation leaves. -/
def Leaves {R : World → World → Prop} (VS : List (Tmp × St R)) (a : Act) (w : World) (dst : Option Tmp) (a' : Act) (w' : World) : Prop :=
  ∃ v, a' = a.put dst v ∧ R w w' ∧ ∀ d, dst = some d → Holds VS v w' d

theorem leaves_of {R : World → World → Prop} {VS : List (Tmp × St R)} {a : Act} {w w' : World} {d : Tmp} {v : Value} (hR : R w w') (h : Holds VS v w' d) : Leaves VS a w (some d) (a.put (some d) v) w' :=
  ⟨v, rfl, hR, fun e he => by injection he with he; subst he; exact h⟩

def FlowOp2 (P : Program) (ops : Array Oper) {R : World → World → Prop} (VS : List (Tmp × St R)) (Q : Exit → Act → World → Prop) (a0 : Act) (w0 : World) (o : Oper) : Prop :=
  ∀ (a : Act) (w : World), R w0 w → Seen VS a0 a w (o.looksAt ops) →
    match o.guard with
    | none => o.wp P a w (Leaves VS a w o.dst) Q
    | some (j, want) =>
      (a.eval (.tmp (((ops[j]?).bind (·.dst)).getD 0)) = .bool want → o.wp P a w (Leaves VS a w o.dst) Q) ∧
      (a.eval (.tmp (((ops[j]?).bind (·.dst)).getD 0)) ≠ .bool want → ∀ d, o.dst = some d → Holds VS undef w d)

def FlowAll2 (P : Program) (ops : Array Oper) {R : World → World → Prop} (VS : List (Tmp × St R)) (Q : Exit → Act → World → Prop) (a0 : Act) (w0 : World) : List Oper → Prop
  | [] => True
  | o :: r => FlowOp2 P ops VS Q a0 w0 o ∧ FlowAll2 P ops VS Q a0 w0 r

def HoldsAll {R : World → World → Prop} (vs : Tmp → Value) (w : World) : List (Tmp × St R) → Prop
  | [] => True
  | (k, s) :: r => s.p (vs k) w ∧ HoldsAll vs w r

theorem holdsAll_of {R : World → World → Prop} {vs : Tmp → Value} {w : World} : ∀ (VS : List (Tmp × St R)), (VS.map (·.1)).Nodup → (∀ t, t ∈ VS.map (·.1) → Holds VS (vs t) w t) → HoldsAll vs w VS := by
  intro VS
  induction VS with
  | nil => intro _ _; trivial
  | cons x r ih =>
    obtain ⟨k, s⟩ := x
    intro hn h
    rw [List.map_cons, List.nodup_cons] at hn
    refine ⟨?_, ih hn.2 fun t ht => ?_⟩
    · have := h k (by simp)
      simpa [Holds, slot] using this
    · have := h t (by simp only [List.map_cons, List.mem_cons]; exact .inr ht)
      have hkt : k ≠ t := fun e => by subst e; exact hn.1 ht
      simpa [Holds, slot, hkt] using this

theorem wp_flow2 {id : Nat} {ops : List Oper} {a0 : Act} {w : World} {Q : Exit → Act → World → Prop} (hm : P.follows .mixedOrders = true) {R : World → World → Prop}
    (VS : List (Tmp × St R)) (hok : flowOk ops.toArray (VS.map (·.1)) a0.tmps.size = true) (hrefl : ∀ a, R a a) (htrans : ∀ a b c, R a b → R b c → R a c)
    (hops : FlowAll2 P ops.toArray VS Q a0 w.drew ops)
    (hfin : ∀ w' (vs : Tmp → Value), R w.drew w' → HoldsAll vs w' VS → Q .normal ((VS.map (·.1)).foldl (fun a d => a.put (some d) (vs d)) a0) w') :
    (Code.region id ops.toArray true).wp P Q a0 w := by
  have hnd : (VS.map (·.1)).Nodup := by
    simp only [flowOk, Bool.and_eq_true, decide_eq_true_eq] at hok
    exact hok.1.2
  refine wp_flow hm (VS.map (·.1)) (fun t v w => Holds VS v w t) R hok hrefl htrans ?_ ?_ fun w' vs hR hV => hfin w' vs hR (holdsAll_of VS hnd hV)
  · intro t v w w' h hR
    unfold Holds at *
    cases hs : slot VS t with
    | none => trivial
    | some s => rw [hs] at h; exact s.st _ _ _ h hR
  · have key : ∀ l : List Oper, FlowAll2 P ops.toArray VS Q a0 w.drew l → FlowAll P ops.toArray (fun t v w => Holds VS v w t) R Q (VS.map (·.1)) a0 w.drew l := by
      intro l
      induction l with
      | nil => intro _; trivial
      | cons o r ih =>
        rintro ⟨h1, h2⟩
        refine ⟨fun a wa hR hk => ?_, ih h2⟩
        have hseen : ∀ l, KnownAll (fun t v w => Holds VS v w t) (VS.map (·.1)) a0 a wa l → Seen VS a0 a wa l := by
          intro l
          induction l with
          | nil => intro _; trivial
          | cons t l ihl =>
            rintro ⟨k1, k2⟩
            refine ⟨?_, ihl k2⟩
            unfold Known at k1
            have hm := slot_mem VS t
            cases hs : slot VS t with
            | none =>
              rw [hs] at hm
              rw [if_neg (fun h => by have := hm.1 h; simp at this)] at k1
              exact k1
            | some s =>
              rw [hs] at hm
              rw [if_pos (hm.2 rfl)] at k1
              unfold Holds at k1
              rw [hs] at k1
              exact k1
        exact h1 a wa hR (hseen _ hk)
    exact key ops hops

/-- All that may turn is new. -/
theorem mod_trans (a b c : World) (h : Mod Nil a b) (k : Mod Nil b c) : Mod Nil a c := h.trans k

end
end Go.Proofs.Ytjmehamkpmimkaa

namespace Go.Proofs.Ytjmehamkpmimkaa
open Go.RowKit

theorem flatMap_rw (ws : List (Nat × List UInt8)) (k : Nat) (x : Nat × List UInt8) (h : ws[k]? = some x) : (ws.flatMap rwCells)[k * 2]? = some (.int .i64 x.1) ∧ (ws.flatMap rwCells)[k * 2 + 1]? = some (.string (str x.2)) := by
  induction ws generalizing k with
  | nil => cases h
  | cons y r ih =>
    match k with
    | 0 => cases h; exact ⟨rfl, rfl⟩
    | k + 1 =>
      have := ih k (by simpa using h)
      have e1 : (k + 1) * 2 = k * 2 + 2 := by omega
      have e2 : (k + 1) * 2 + 1 = k * 2 + 1 + 2 := by omega
      rw [e2, e1]
      have e3 : (y :: r).flatMap rwCells = [.int .i64 y.1, .string (str y.2)] ++ r.flatMap rwCells := rfl
      rw [e3, List.getElem?_append_right (by simp), List.getElem?_append_right (by simp)]
      simpa using this

set_option maxHeartbeats 3200000 in
set_option maxRecDepth 100000 in
theorem rdkImage_any (B g : Nat) (F : Nat → Prop) (s : DSt) (w : World) (h : RdkAt B w g F s) (hbig : s.ws.length ≤ 1000000) :
    Calls Try.prog 32 #[.pointer (some ⟨g, 0, none⟩)] w fun r w' => r = .returned (.string (str s.img)) ∧ Mod Nil w w' := by
  obtain ⟨vw, rfl, h⟩ := h
  have hc0 := h.blk.cell 0
  obtain ⟨C, d, rfl, hd1, hd2⟩ := own_slice h.waits
  have hbs := h.big
  obtain ⟨n, hn⟩ : ∃ n, s.ws.length = n := ⟨_, rfl⟩
  rw [hn] at hbig hd1
  have HN := Lib.hid hn
  have H := Lib.hid h
  clear h hn
  go_enter Try.func32, Try.ntmps32
  go_wp2_with fail
  clear hc0
  go_loopw [3, 4] (fun sv iv wr => ∃ k : Nat, k ≤ n ∧ iv = .int .i64 k ∧ sv = .string (str (imgOf s.S (s.ws.take k))) ∧ Mod Nil w wr) (fun _ v _ => n - (intOf v).toNat)
  case atStart => exact ⟨0, Nat.zero_le _, rfl, rfl, Mod.refl _ _⟩
  case round =>
    obtain ⟨k, hk, rfl, rfl, hm⟩ := hrel
    have hD := H.out.keep hm (fun _ _ => id)
    have hc1 : wr.cell? ⟨g, 1, none⟩ = some (.slice C n d) := by have := hD.blk.cell 1; rw [HN.out] at this; exact this
    have HM := Lib.hid hm
    clear hm
    by_cases hlt : k < n
    · obtain ⟨x, hx⟩ : ∃ x, s.ws[k]? = some x := ⟨_, List.getElem?_eq_getElem (by have := HN.out; omega)⟩
      have hxm := List.mem_of_getElem? hx
      obtain ⟨e1, e2⟩ := flatMap_rw s.ws k x hx
      obtain ⟨gw, cw, hgw, _, _⟩ := hD.waits.form (by have := HN.out; omega)
      injection hgw with hC hnn hdd
      subst hC hdd
      clear hnn
      have hcl := hD.waits.cells (g := gw) rfl
      have q1 := hcl _ _ e1
      have q2 := hcl _ _ e2
      rw [Addr.add_lit, Nat.zero_add] at q1 q2
      have hwlt := (hD.waits.lt gw rfl).2
      have hglt := hD.blk.lt
      have himg : imgOf s.S (s.ws.take (k + 1)) = layB (imgOf s.S (s.ws.take k)) x.1 x.2 := by rw [List.take_add_one, hx]; exact imgOf_snoc _ _ _
      have HI := Lib.hid himg
      have hfit := H.out.fit x hxm
      obtain ⟨I, hI⟩ : ∃ I, I = imgOf s.S (s.ws.take k) := ⟨_, rfl⟩
      have hil : I.length = s.S.length := by rw [hI]; exact imgOf_length (fun y hy => (H.out.fit y (List.mem_of_mem_take hy)).1)
      have HX1 := Lib.hid (show 64 * x.1 + x.2.length ≤ I.length by rw [hil]; exact hfit.1)
      have HX2 := Lib.hid (show I.length ≤ 1000000000 by rw [hil]; omega)
      rw [← hI] at HI ⊢
      have hwx : IntKind.i64.wrap (64 * (x.1 : Int)) = ((64 * x.1 : Nat) : Int) := by rw [IntWalk.i64_in _ (by omega)]; omega
      have HC1 := Lib.hid hc1
      have HQ1 := Lib.hid q1
      have HQ2 := Lib.hid q2
      clear e1 e2 hD hcl himg hx hI hil hfit hc1 q1 q2
      have hc1 := HC1.out
      go_wp2_with fail
      have q1 := HQ1.out
      have q2 := HQ2.out
      go_wp2_with (go_quiet (first | (go_at_call 67; refine Calls.quiet_of (refLay_any I x.2 (64 * x.1) _ HX1.out HX2.out))))
      go_roundw
      case rel => exact ⟨k + 1, by omega, by go_num, by rw [HI.out]; rfl, HM.out.drewN _⟩
      case measure => simp [intOf] <;> omega
    · clear hD
      go_wp2_with fail
      go_ret
      have hk' : s.ws.take k = s.ws := List.take_of_length_le (by have := HN.out; omega)
      exact ⟨by rw [hk']; rfl, HM.out⟩
end Go.Proofs.Ytjmehamkpmimkaa
