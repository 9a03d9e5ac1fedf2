/- The walk of the law OctetWrites: it answers true, and turns nothing of old. -/
import Derived.Test.YtdllafmponmkmaaOctAw
import Derived.Test.YtdllafmponmkmaaOctR
import Derived.Test.YtdllafmponmkmaaFld
import Derived.Deep.DeepCutAuto
import Derived.Deep.CutBlock
namespace Go.Proofs.Ytdllafmponmkmaa
open Go.RowKit

/-- What a field is written as; whether it can be. -/
def encFld (f : Fld) : List UInt8 := if f.kind = 0 then encNum f.n else if f.kind = 1 then encInt f.n else if f.kind = 2 then encText f.s.data.toList else encTexts (octs f.l)
def okFld (f : Fld) : Bool := if f.kind = 0 then okNum f.n else true
def fldW (f : Fld) (s : WSt) : WSt := if f.kind = 0 then wNum f.n s else if f.kind = 1 then wInt f.n s else if f.kind = 2 then wText f.s.data.toList s else wTexts (octs f.l) s
def errOf (ok : Bool) : Int := if ok then 0 else 2

theorem wNum_step (n : Int) (out : List UInt8) (ok : Bool) : wNum n (out, errOf ok) = (if ok && okNum n then out ++ encNum n else out, errOf (ok && okNum n)) := by
  unfold wNum
  split
  · rename_i h
    have : okNum n = false := by unfold okNum; rcases h with h | h <;> simp [h]
    rw [this]
    simp [errOf]
  · rename_i h
    have h2 : okNum n = true := by unfold okNum; simp; omega
    have h3 : encNum n = beBytes 4 n.toNat := by unfold encNum; rw [if_neg h]
    rw [h2, h3]
    cases ok <;> simp [wPut, errOf]
theorem wInt_step (n : Int) (out : List UInt8) (ok : Bool) : wInt n (out, errOf ok) = (if ok then out ++ encInt n else out, errOf ok) := by
  cases ok <;> simp [wInt, wPut, errOf, encInt]
theorem okNum_nat (n : Nat) (h : n ≤ 2147483647) : okNum n = true := by unfold okNum; simp; omega
theorem wText_step (t : List UInt8) (out : List UInt8) (ok : Bool) (h : t.length ≤ 2147483647) : wText t (out, errOf ok) = (if ok then out ++ encText t else out, errOf ok) := by
  unfold wText
  rw [wNum_step, okNum_nat _ h]
  cases ok <;> simp [errOf, encText]
theorem wTexts_step (l : List (List UInt8)) (out : List UInt8) (ok : Bool) (h : l.length ≤ 2147483647) (hl : ∀ t ∈ l, t.length ≤ 2147483647) : wTexts l (out, errOf ok) = (if ok then out ++ encTexts l else out, errOf ok) := by
  unfold wTexts
  rw [wNum_step, okNum_nat _ h, Bool.and_true]
  have key : ∀ (m : List (List UInt8)) (o : List UInt8), (∀ t ∈ m, t.length ≤ 2147483647) → m.foldl (fun s t => wText t s) (o, errOf ok) = (if ok then o ++ (m.map encText).flatten else o, errOf ok) := by
    intro m
    induction m with
    | nil => intro o _; cases ok <;> simp
    | cons t m ih =>
      intro o hm
      rw [List.foldl_cons, wText_step t o ok (hm t (by simp)), ih _ (fun u hu => hm u (by simp [hu]))]
      cases ok <;> simp
  rw [key l _ hl]
  cases ok <;> simp [encTexts]

theorem fldW_step (f : Fld) (out : List UInt8) (ok : Bool) (h : fldSmall f = true) : fldW f (out, errOf ok) = (if ok && okFld f then out ++ encFld f else out, errOf (ok && okFld f)) := by
  simp only [fldSmall, Bool.and_eq_true, decide_eq_true_eq, List.all_eq_true] at h
  obtain ⟨⟨h1, h2⟩, h3⟩ := h
  have hs : f.s.data.toList.length = f.s.size := Array.length_toList
  unfold fldW okFld encFld
  split
  · exact wNum_step _ _ _
  · split
    · rw [wInt_step, Bool.and_true]
    · split
      · rw [wText_step _ _ _ (by omega), Bool.and_true]
      · rw [wTexts_step _ _ _ (by rw [octs, List.length_map]; omega) (fun t ht => by
          obtain ⟨u, hu, rfl⟩ := List.mem_map.1 ht
          have := h3 u hu
          have h4 : u.data.toList.length = u.size := Array.length_toList
          omega), Bool.and_true]

theorem FldsAt.low {w : World} {A : Option Addr} {fs : List Fld} (h : FldsAt All w A fs) : FldsAt (fun b => b < w.heap.size) w A fs := fun hn => by
  obtain ⟨b, o, e, _, hb, hf⟩ := h hn
  refine ⟨b, o, e, hb, hb, fun i f hi => ?_⟩
  obtain ⟨h0, h1, h2, B, c, h3, h4, h5, h6, h7⟩ := hf i f hi
  refine ⟨h0, h1, h2, B, c, h3, h4, h5, h6, fun hl => ?_⟩
  obtain ⟨ad, e', _, hb', hc⟩ := h7 hl
  exact ⟨ad, e', hb', hb', hc⟩

theorem encTexts_len (l : List (List UInt8)) (M : Nat) (h : ∀ t ∈ l, t.length ≤ M) : (encTexts l).length ≤ 4 + l.length * (4 + M) := by
  have h0 := encNum_len l.length
  have key : ∀ m : List (List UInt8), (∀ t ∈ m, t.length ≤ M) → ((m.map encText).flatten).length ≤ m.length * (4 + M) := by
    intro m
    induction m with
    | nil => intro _; simp
    | cons t m ih =>
      intro hm
      have h1 := ih fun u hu => hm u (by simp [hu])
      have h2 := encText_len t
      have h3 := hm t (by simp)
      rw [List.map_cons, List.flatten_cons, List.length_append, List.length_cons, Nat.add_mul]
      omega
  have := key l h
  rw [encTexts, List.length_append]
  omega
theorem encFld_len (f : Fld) (h : fldSmall f = true) : (encFld f).length ≤ 3000 := by
  simp only [fldSmall, Bool.and_eq_true, decide_eq_true_eq, List.all_eq_true] at h
  obtain ⟨⟨h1, h2⟩, h3⟩ := h
  have hs : f.s.data.toList.length = f.s.size := Array.length_toList
  unfold encFld
  split
  · have := encNum_len f.n; omega
  · split
    · simp [encInt, beBytes_len]
    · split
      · have := encText_len f.s.data.toList; omega
      · have := encTexts_len (octs f.l) 100 (fun t ht => by
          obtain ⟨u, hu, rfl⟩ := List.mem_map.1 ht
          have := h3 u hu
          have h4 : u.data.toList.length = u.size := Array.length_toList
          omega)
        have h5 : (octs f.l).length ≤ 20 := by rw [octs, List.length_map]; exact h2
        have h6 : (octs f.l).length * (4 + 100) ≤ 20 * 104 := Nat.mul_le_mul_right _ h5
        omega

set_option maxHeartbeats 3200000 in
set_option maxRecDepth 100000 in
theorem octetWrites_walk (A : Option Addr) (n c : Nat) (fs : List Fld) (w : World) (hn : fs.length = n) (hr : FldsAt All w A fs) :
    Calls Try.prog 4 #[.slice A n c] w fun e w' => e = .returned (.bool true) ∧ Mod Nil w w' := by
  have HN := Lib.hid hn
  have HR := Lib.hid (FldsAt.low hr)
  clear hn hr
  by_cases hsm : fldsSmall fs = true
  · have hn20 : n ≤ 20 := by
      unfold fldsSmall at hsm
      rw [HN.out] at hsm
      simp only [Bool.and_eq_true, decide_eq_true_eq] at hsm
      exact hsm.1
    have hall : ∀ f ∈ fs, fldSmall f = true := by
      unfold fldsSmall at hsm
      simp only [Bool.and_eq_true, List.all_eq_true] at hsm
      exact hsm.2
    have HSM := Lib.hid hsm
    have HALL := Lib.hid hall
    clear hsm hall
    go_enter Try.func4, Try.ntmps4
    go_wp2_with fail
    refine (awake1_any _).mono ?_
    rintro e w0 ⟨rfl, hm0⟩
    have HM0 := Lib.hid hm0
    clear hm0
    go_wp2_with fail
    refine (small_any (fun b => b < w.heap.size) A n c fs _ HN.out (HR.out.keep HM0.out (fun _ _ => id))).mono ?_
    rintro e w1 ⟨rfl, rfl⟩
    rw [HSM.out]
    have HW := Lib.hid (wr_new w0)
    go_wp2_with fail
    go_loopw [4, 5, 6] (fun want okv i wr => ∃ (k : Nat) (v : Value) (out : List UInt8) (ok : Bool), k ≤ n ∧ i = .int .i64 k ∧ okv = .bool ok ∧ want = .string (str out) ∧ out.length ≤ k * 3000 ∧ WrAt w0.heap.size wr w0.heap.size v (out, errOf ok) ∧ Mod Nil w0 wr) (fun _ _ i _ => n - (intOf i).toNat)
    case atStart => exact ⟨0, .slice none 0 0, [], true, Nat.zero_le _, rfl, rfl, rfl, Nat.zero_le _, HW.out, (Mod.refl _ _).alloc _⟩
    case round =>
      obtain ⟨k, v, out, ok, hk, rfl, rfl, rfl, hout, hw, hm⟩ := hrel
      have HWr := Lib.hid hw
      have HMr := Lib.hid hm
      clear hw hm
      by_cases hlt : k < n
      · obtain ⟨f, hf⟩ : ∃ f, fs[k]? = some f := ⟨_, List.getElem?_eq_getElem (by rw [HN.out]; exact hlt)⟩
        have hfs := HALL.out f (List.mem_of_getElem? hf)
        obtain ⟨b, o, rfl, _, hbl, hat⟩ := (HR.out.keep (HM0.out.trans HMr.out) (fun _ _ => id)) (by rw [HN.out]; omega)
        obtain ⟨h0, h1, h2, B, cB, h3, hl, hs, ht, hRB⟩ := hat k f hf
        have HFS := Lib.hid hfs
        have HRB := Lib.hid hRB
        clear hat hf hfs ht hRB
        go_upto_block 2 with (fail)
        go_cut [5, 8] (fun okv sv wx => ∃ v', okv = .bool (ok && okFld f) ∧ sv = .string (str (encFld f)) ∧ WrAt w0.heap.size wx w0.heap.size v' (fldW f (out, errOf ok)) ∧ Mod Nil w0 wx)
        case first =>
          have HBK := Lib.hid (Blk.new wr 37 #[.int .i64 f.kind, .int .i64 f.n, .string f.s, .slice B f.l.length cB])
          have hgw := HWr.out.lt _ (.inl rfl)
          have hfoot : ∀ j, Foot w0.heap.size v j → j < wr.heap.size := HWr.out.lt
          have hlow : ∀ j, Foot w0.heap.size v j → w0.heap.size ≤ j := HWr.out.low
          have HFT := Lib.hid hfoot
          have HLW := Lib.hid hlow
          have HWA := Lib.hid (WrAt.keep HWr.out ((Mod.refl Nil wr).alloc (.cells #[.int .i64 f.kind, .int .i64 f.n, .string f.s, .slice B f.l.length cB] 37)) (fun _ _ => id))
          clear hfoot hlow
          by_cases k0 : f.kind = 0
          · have k0b : (f.kind == 0) = true := by simp [k0]
            have e1 : fldW f (out, errOf ok) = wNum f.n (out, errOf ok) := by unfold fldW; rw [if_pos k0]
            have e2 : okFld f = okNum f.n := by unfold okFld; rw [if_pos k0]
            have e3 : encFld f = encNum f.n := by unfold encFld; rw [if_pos k0]
            have E1 := Lib.hid e1
            have E2 := Lib.hid e2
            have E3 := Lib.hid e3
            clear k0 e1 e2 e3
            go_wp2_with fail
            refine (wnum_any w0.heap.size w0.heap.size v (out, errOf ok) f.n _ HWA.out (by simp; omega) (by simp; omega)).mono ?_
            rintro r w2 ⟨rfl, v2, hw2, hm2, _⟩
            have hb2 := HBK.out.keep hm2 (fun h => by have := HFT.out _ h; omega)
            have hc1 := hb2.cell 1
            have HW2 := Lib.hid hw2
            have HM2 := Lib.hid (((HMr.out.alloc _).trans' hm2 (fun _ _ h => h) (fun j hj h => by have := HLW.out j h; omega) : Mod Nil w0 w2))
            clear hw2 hm2 hb2
            go_wp2_with fail
            refine (refNum_any f.n _).mono ?_
            rintro r w3 ⟨rfl, hm3⟩
            have HW3 := Lib.hid (WrAt.keep HW2.out hm3 (fun _ _ => id))
            have HM3 := Lib.hid (HM2.out.trans hm3)
            clear hm3 hc1
            cases ok
            · go_wp2_with fail
              go_meet
              case rel => exact ⟨v2, by rw [E2.out]; rfl, by rw [E3.out], by rw [E1.out]; exact HW3.out, HM3.out⟩
            · go_wp2_with fail
              go_meet
              case rel => exact ⟨v2, by rw [E2.out]; simp, by rw [E3.out], by rw [E1.out]; exact HW3.out, HM3.out⟩
          have k0b : (f.kind == 0) = false := by simp [k0]
          have e2 : okFld f = true := by unfold okFld; rw [if_neg k0]
          have E2 := Lib.hid e2
          clear e2
          by_cases k1 : f.kind = 1
          · have k1b : (f.kind == 1) = true := by simp [k1]
            have E1 := Lib.hid (show fldW f (out, errOf ok) = wInt f.n (out, errOf ok) by unfold fldW; rw [if_neg k0, if_pos k1])
            have E3 := Lib.hid (show encFld f = encInt f.n by unfold encFld; rw [if_neg k0, if_pos k1])
            clear k0 k1
            go_wp2_with fail
            refine (wint_any w0.heap.size w0.heap.size v (out, errOf ok) f.n _ HWA.out (by simp; omega) (by simp; omega)).mono ?_
            rintro r w2 ⟨rfl, v2, hw2, hm2, _⟩
            have hb2 := HBK.out.keep hm2 (fun h => by have := HFT.out _ h; omega)
            have hc1 := hb2.cell 1
            have HW2 := Lib.hid hw2
            have HM2 := Lib.hid (((HMr.out.alloc _).trans' hm2 (fun _ _ h => h) (fun j hj h => by have := HLW.out j h; omega) : Mod Nil w0 w2))
            clear hw2 hm2 hb2
            go_wp2_with fail
            refine (refInt_any f.n _).mono ?_
            rintro r w3 ⟨rfl, hm3⟩
            have HW3 := Lib.hid (WrAt.keep HW2.out hm3 (fun _ _ => id))
            have HM3 := Lib.hid (HM2.out.trans hm3)
            clear hm3 hc1
            go_wp2_with fail
            go_meet
            case rel => exact ⟨v2, by rw [E2.out, Bool.and_true], by rw [E3.out], by rw [E1.out]; exact HW3.out, HM3.out⟩
          have k1b : (f.kind == 1) = false := by simp [k1]
          have hfs2 := HFS.out
          simp only [fldSmall, Bool.and_eq_true, decide_eq_true_eq, List.all_eq_true] at hfs2
          obtain ⟨⟨hs200, hl20⟩, ht100⟩ := hfs2
          have HT100 := Lib.hid ht100
          clear ht100
          by_cases k2 : f.kind = 2
          · have k2b : (f.kind == 2) = true := by simp [k2]
            have E1 := Lib.hid (show fldW f (out, errOf ok) = wText f.s.data.toList (out, errOf ok) by unfold fldW; rw [if_neg k0, if_neg k1, if_pos k2])
            have E3 := Lib.hid (show encFld f = encText f.s.data.toList by unfold encFld; rw [if_neg k0, if_neg k1, if_pos k2])
            clear k0 k1 k2
            go_wp2_with fail
            refine (wtext_any w0.heap.size w0.heap.size v (out, errOf ok) f.s _ HWA.out (by simp; omega) (by simp; omega)).mono ?_
            rintro r w2 ⟨rfl, v2, hw2, hm2, _⟩
            have hb2 := HBK.out.keep hm2 (fun h => by have := HFT.out _ h; omega)
            have hc1 := hb2.cell 2
            have HW2 := Lib.hid hw2
            have HM2 := Lib.hid (((HMr.out.alloc _).trans' hm2 (fun _ _ h => h) (fun j hj h => by have := HLW.out j h; omega) : Mod Nil w0 w2))
            clear hw2 hm2 hb2
            go_wp2_with fail
            refine (refText_any f.s _ (by omega)).mono ?_
            rintro r w3 ⟨rfl, hm3⟩
            have HW3 := Lib.hid (WrAt.keep HW2.out hm3 (fun _ _ => id))
            have HM3 := Lib.hid (HM2.out.trans hm3)
            clear hm3 hc1
            go_wp2_with fail
            go_meet
            case rel => exact ⟨v2, by rw [E2.out, Bool.and_true], by rw [E3.out], by rw [E1.out]; exact HW3.out, HM3.out⟩
          · have k2b : (f.kind == 2) = false := by simp [k2]
            have E1 := Lib.hid (show fldW f (out, errOf ok) = wTexts (octs f.l) (out, errOf ok) by unfold fldW; rw [if_neg k0, if_neg k1, if_neg k2])
            have E3 := Lib.hid (show encFld f = encTexts (octs f.l) by unfold encFld; rw [if_neg k0, if_neg k1, if_neg k2])
            clear k0 k1 k2
            have hmul : f.l.length * (4 + 100) ≤ 20 * 104 := Nat.mul_le_mul_right _ hl20
            go_wp2_with fail
            refine (wtexts_any w0.heap.size w0.heap.size v (out, errOf ok) B f.l.length _ 100 f.l _ HWA.out (by simp; omega) rfl ((HRB.out.mono (S' := fun b => ¬ Foot w0.heap.size v b) ?_).keep ((Mod.refl Nil wr).alloc _) (fun _ _ => id)) HT100.out (by simp; omega)).mono ?_
            · intro j _ hj hf
              have := HLW.out j hf
              have := HM0.out.size
              omega
            rintro r w2 ⟨rfl, v2, hw2, hm2, _⟩
            have hb2 := HBK.out.keep hm2 (fun h => by have := HFT.out _ h; omega)
            have hc1 := hb2.cell 3
            have HRB := Lib.hid ((((HRB.out.mono (S' := fun b => b < w0.heap.size) (fun j _ hj => by have := HM0.out.size; omega)).keep ((Mod.refl Nil wr).alloc (.cells #[.int .i64 f.kind, .int .i64 f.n, .string f.s, .slice B f.l.length cB] 37)) (fun _ _ => id)).keep hm2 (fun j hj hf => by have := HLW.out j hf; omega)))
            have HMW2 := Lib.hid (Mod.refl Nil w2)
            have HW2 := Lib.hid hw2
            have HM2 := Lib.hid (((HMr.out.alloc _).trans' hm2 (fun _ _ h => h) (fun j hj h => by have := HLW.out j h; omega) : Mod Nil w0 w2))
            clear hw2 hm2 hb2
            go_wp2_with fail
            refine (refTexts_any B f.l.length _ f.l _ rfl (by omega) ((HRB.out.keep0 HMW2.out).mono (fun _ _ _ => trivial)) (fun t ht => by have := HT100.out t ht; omega)).mono ?_
            rintro r w3 ⟨rfl, hm3⟩
            have HW3 := Lib.hid (WrAt.keep HW2.out hm3 (fun _ _ => id))
            have HM3 := Lib.hid (HM2.out.trans hm3)
            clear hm3 hc1
            go_wp2_with fail
            go_meet
            case rel => exact ⟨v2, by rw [E2.out, Bool.and_true], by rw [E3.out], by rw [E1.out]; exact HW3.out, HM3.out⟩
        case rest =>
          obtain ⟨v', rfl, rfl, hw', hm'⟩ := hcut
          have hel := encFld_len f HFS.out
          rw [fldW_step f out ok HFS.out] at hw'
          obtain ⟨ok2, hok2⟩ : ∃ b, b = (ok && okFld f) := ⟨_, rfl⟩
          obtain ⟨out2, hout2⟩ : ∃ o, o = (if ok2 then out ++ encFld f else out) := ⟨_, rfl⟩
          rw [← hok2] at hw' ⊢
          rw [← hout2] at hw'
          have hol : out2.length ≤ (k + 1) * 3000 := by
            rw [hout2]
            split
            · rw [List.length_append]; omega
            · omega
          have HW' := Lib.hid hw'
          have HM' := Lib.hid hm'
          clear hw' hm' hok2
          cases ok2
          · have hb : ((str out).toList == (str out2).toList) = true := by rw [hout2]; simp
            have he : str out2 = str out := by rw [hout2]; simp
            have HE := Lib.hid he
            clear hb he hout2
            go_wp2_with fail
            refine (wbytes_any w0.heap.size w0.heap.size v' (out2, errOf false) _ HW'.out (by simp; omega)).mono ?_
            rintro r w3 ⟨v3, rfl, hown, hm3⟩
            obtain ⟨A3, c3, rfl, _, _, hl3, hr3⟩ := IsSl.of_own hown
            have kb := conv_bytes (l := out2) hr3 rfl c3
            rw [HE.out] at kb
            have HW3 := Lib.hid (WrAt.keep HW'.out hm3 (fun _ _ => id))
            have HM3 := Lib.hid (HM'.out.trans hm3)
            clear hm3 hown hl3 hr3
            go_wp2_with fail
            refine (werr_any w0.heap.size w0.heap.size v' (out2, errOf false) _ HW3.out).mono ?_
            rintro r w4 ⟨rfl, rfl⟩
            go_wp2_with fail
            refine (werr_any w0.heap.size w0.heap.size v' (out2, errOf false) _ HW3.out).mono ?_
            rintro r w4 ⟨rfl, rfl⟩
            go_wp2_with fail
            go_roundw
            case rel => exact ⟨k + 1, v', out2, false, by omega, by go_num, rfl, by rw [HE.out], hol, HW3.out, HM3.out⟩
            case measure => simp [intOf] <;> omega
          · have he : str out ++ str (encFld f) = str out2 := by rw [hout2, str_append]; simp
            have hs1 : (str out).size ≤ 100000 := by rw [str_size]; omega
            have hs2 : (str (encFld f)).size ≤ 100000 := by rw [str_size]; omega
            clear hout2
            go_wp2_with fail
            refine (wbytes_any w0.heap.size w0.heap.size v' (out2, errOf true) _ HW'.out (by simp; omega)).mono ?_
            rintro r w3 ⟨v3, rfl, hown, hm3⟩
            obtain ⟨A3, c3, rfl, _, _, hl3, hr3⟩ := IsSl.of_own hown
            have kb := conv_bytes (l := out2) hr3 rfl c3
            have HW3 := Lib.hid (WrAt.keep HW'.out hm3 (fun _ _ => id))
            have HM3 := Lib.hid (HM'.out.trans hm3)
            clear hm3 hown hl3 hr3
            go_wp2_with fail
            refine (werr_any w0.heap.size w0.heap.size v' (out2, errOf true) _ HW3.out).mono ?_
            rintro r w4 ⟨rfl, rfl⟩
            go_wp2_with fail
            go_roundw
            case rel => exact ⟨k + 1, v', out2, true, by omega, by go_num, rfl, rfl, hol, HW3.out, HM3.out⟩
            case measure => simp [intOf] <;> omega
      · go_wp2_with fail
        go_ret
        exact ⟨rfl, HM0.out.trans HMr.out⟩
  · have hsm' : fldsSmall fs = false := by simpa using hsm
    have HSM := Lib.hid hsm'
    clear hsm hsm'
    go_enter Try.func4, Try.ntmps4
    go_wp2_with fail
    refine (awake1_any _).mono ?_
    rintro e w0 ⟨rfl, hm0⟩
    have HM0 := Lib.hid hm0
    clear hm0
    go_wp2_with fail
    refine (small_any (fun b => b < w.heap.size) A n c fs _ HN.out (HR.out.keep HM0.out (fun _ _ => id))).mono ?_
    rintro e w1 ⟨rfl, rfl⟩
    rw [HSM.out]
    go_wp2_with fail
    refine (awake1_any _).mono ?_
    rintro e w2 ⟨rfl, hm2⟩
    have HM2 := Lib.hid hm2
    clear hm2
    go_wp2_with fail
    go_ret
    exact ⟨rfl, HM0.out.trans HM2.out⟩

end Go.Proofs.Ytdllafmponmkmaa
