/- Parts of the proof of ScanStreams, joined: ScK ScN ScA ScP. -/
import Derived.Test.YtefloadjolpgbaaGreatDoorScanStreamsj1
namespace Go.Proofs.YtefloadjolpgbaaGreatDoor
open Go.RowKit

structure Tok where
  kind : Nat
  text : List UInt8
  n : Nat
def tokV (t : Tok) (at_ : Nat) : Value := .agg #[.int .i64 t.kind, .string (str t.text), .int .i64 t.n, .int .i64 at_]

def markL : List UInt8 := [40, 41, 91, 93, 123, 125, 46, 94, 124, 58]
def decV (l : List UInt8) : Nat := l.foldl (fun a c => a * 10 + (c.toNat - 48)) 0
/-- The token with which a text begins, and its length. -/
def tokL (l : List UInt8) : Option (Tok × Nat) := match l with
  | [] => none
  | c :: r =>
    if letB c then
      if 40 < runL wrdB l then none
      else if kwB l (runL wrdB l) then some (⟨2, l.take (runL wrdB l + 1), 0⟩, runL wrdB l + 1)
      else some (⟨1, l.take (runL wrdB l), 0⟩, runL wrdB l)
    else if digB c then
      if 9 < runL digB l then none else some (⟨4, [], decV (l.take (runL digB l))⟩, runL digB l)
    else if c = 39 then (txtL r).map fun x => (⟨5, x.1, 0⟩, x.2 + 1)
    else if c = 35 then
      if symL r = 0 then none else some (⟨6, r.take (symL r), 0⟩, symL r + 1)
    else if c = 58 ∧ r[0]? = some 61 then some (⟨7, [58, 61], 0⟩, 2)
    else if markL.contains c then some (⟨7, [c], 0⟩, 1)
    else if runL binB l = 0 then none else some (⟨3, l.take (min 2 (runL binB l)), 0⟩, min 2 (runL binB l))

def TokRes (l : List UInt8) (w : World) (e : Ending) (w' : World) : Prop :=
  ∃ t k, e = .returned (.tuple #[tokV t 0, .int .i64 (k : Nat)]) ∧ ((tokL l = some (t, k) ∧ 0 < k) ∨ (tokL l = none ∧ k = 0)) ∧ Mod Nil w w'

theorem tok_load {w : World} {g : Nat} {cs : Array Value} (hb : Blk w g 30 cs) (hs : cs.size = 4) : (loadVar 30 ⟨g, 0, none⟩).run Tryz.prog w = .ok (.agg cs) w :=
  run_loadVar_row w g 30 30 cs (0, 0) _ hb Tryz.underlying30 rfl (by rw [hs]; kernel_rfl)
def tok0 : Array Value := #[.int .i64 0, .string ⟨#[]⟩, .int .i64 0, .int .i64 0]
theorem tok_facts {w : World} {g : Nat} (hb : Blk w g 30 tok0) :
    w.cell? ⟨g, 0, none⟩ = some (.int .i64 0) ∧ w.cell? ⟨g, 1, none⟩ = some (.string ⟨#[]⟩) ∧ w.cell? ⟨g, 2, none⟩ = some (.int .i64 0) ∧ w.cell? ⟨g, 3, none⟩ = some (.int .i64 0) ∧
      w.frozen? ⟨g, 0, none⟩ = false ∧ w.frozen? ⟨g, 1, none⟩ = false ∧ w.frozen? ⟨g, 2, none⟩ = false ∧ w.frozen? ⟨g, 3, none⟩ = false :=
  ⟨hb.cell 0, hb.cell 1, hb.cell 2, hb.cell 3, hb.frozen 0, hb.frozen 1, hb.frozen 2, hb.frozen 3⟩
/-- A token stored whole. -/
def tokSet (w : World) (g : Nat) (t : Tok) (at_ : Nat) : World := (((w.setCell ⟨g, 0, none⟩ (.int .i64 t.kind)).setCell ⟨g, 1, none⟩ (.string (str t.text))).setCell ⟨g, 2, none⟩ (.int .i64 t.n)).setCell ⟨g, 3, none⟩ (.int .i64 at_)
theorem tokSet_blk {w : World} {g : Nat} {cs : Array Value} (hb : Blk w g 30 cs) (hs : cs.size = 4) (t : Tok) (at_ : Nat) : Blk (tokSet w g t at_) g 30 #[.int .i64 t.kind, .string (str t.text), .int .i64 t.n, .int .i64 at_] := by
  have h := (((hb.set_ 0 (.int .i64 t.kind)).set_ 1 (.string (str t.text))).set_ 2 (.int .i64 t.n)).set_ 3 (.int .i64 at_)
  rcases cs with ⟨_ | ⟨a, _ | ⟨b, _ | ⟨c, _ | ⟨d, _ | ⟨e, r⟩⟩⟩⟩⟩⟩ <;> simp at hs
  unfold tokSet
  simpa using h
theorem tokSet_mod {F : Nat → Prop} {w0 w : World} {g : Nat} (hm : Mod F w0 w) (hg : F g ∨ w0.heap.size ≤ g) (t : Tok) (at_ : Nat) : Mod F w0 (tokSet w g t at_) := (((hm.set hg _).set hg _).set hg _).set hg _
theorem tok_end {l : List UInt8} {w w3 : World} {a : Act} (hb : Blk w3 w.heap.size 30 tok0) (hm : Mod Nil w w3) (t : Tok) (k : Nat) (hc : (tokL l = some (t, k) ∧ 0 < k) ∨ (tokL l = none ∧ k = 0))
    (hp : a.tmps.getD 2 undef = .pointer (some ⟨w.heap.size, 0, none⟩)) (h3 : a.tmps.getD 3 undef = .int .i64 (k : Nat)) (hd : a.defers = []) :
    bodyPost Tryz.prog Tryz.f18 (fun e w' => TokRes l w e w') .ret a (tokSet w3 w.heap.size t 0) := by
  refine bodyPost_ret (v := .tuple #[tokV t 0, .int .i64 (k : Nat)]) ?_ hd ⟨t, k, rfl, hc, tokSet_mod hm (.inr (Nat.le_refl _)) t 0⟩
  rw [results_cell_tmp rfl, hp]
  have := tok_load (tokSet_blk hb rfl t 0) rfl
  simp [asAddr, Result.andThen, this, h3, tokV]

theorem decFrom_all : ∀ (l : List UInt8) (a : Nat), l.all digB = true → Lib.decFrom a l = some (l.foldl (fun a c => a * 10 + (c.toNat - 48)) a)
  | [], a, _ => rfl
  | c :: r, a, h => by
    rw [List.all_cons, Bool.and_eq_true] at h
    have hd : Lib.digitVal c = some (c.toNat - 48) := by
      have := h.1
      unfold digB at this
      simp only [Bool.and_eq_true, decide_eq_true_eq] at this
      unfold Lib.digitVal
      rw [if_pos this]
    rw [Lib.decFrom, hd, List.foldl_cons]
    exact decFrom_all r _ h.2
theorem atoi_digits {l : List UInt8} (h0 : 0 < l.length) (h : l.all digB = true) : Lib.atoi l = some (decV l : Int) := by
  cases l with
  | nil => simp at h0
  | cons c r =>
    have hc : 48 ≤ c.toNat ∧ c.toNat ≤ 57 := by
      rw [List.all_cons, Bool.and_eq_true] at h
      have := h.1
      unfold digB at this
      simpa only [Bool.and_eq_true, decide_eq_true_eq] using this
    have h1 : (c == 45) = false := by
      simp
      rintro rfl
      simp at hc
    have h2 : (c == 43) = false := by
      simp
      rintro rfl
      simp at hc
    rw [Lib.atoi, h1, h2]
    simp only [Bool.false_eq_true, if_false]
    unfold Lib.decNat
    rw [List.isEmpty_cons]
    simp only [Bool.false_eq_true, if_false]
    rw [decFrom_all _ _ h]
    rfl
theorem u8_eqb (c d : UInt8) : ((c.toNat : Int) == (d.toNat : Int)) = (c == d) := by
  by_cases h : c = d
  · subst h
    simp
  · rw [ne_of_u8 h]
    simp [h]

set_option maxHeartbeats 1600000 in
set_option maxRecDepth 100000 in
theorem scToken_any (l : List UInt8) (hl : l.length ≤ 5000) (h0 : 1 ≤ l.length) (w : World) : Calls Tryz.prog 18 #[.string (str l)] w fun e w' => TokRes l w e w' := by
  have hsz := str_size l
  obtain ⟨c, r, hcr⟩ : ∃ c r, l = c :: r := by
    cases l with
    | nil => simp at h0
    | cons c r => exact ⟨c, r, rfl⟩
  have hc : l[0]? = some c := by rw [hcr]; rfl
  have hg := str_getE hc (by omega)
  have HW := Lib.hid (fun w => scWord_any l (by omega) w)
  have HCR := Lib.hid hcr
  clear hcr hc
  obtain ⟨n, hn⟩ : ∃ n, n = wrdL l := ⟨_, rfl⟩
  have hwl : n ≤ l.length := by rw [hn]; exact wrdL_le l
  rw [← hn] at HW
  have he := str_take l n
  have he1 := str_take l (n + 1)
  have HN := Lib.hid hn
  clear hn
  go_enter Tryz.func18, Tryz.ntmps18
  go_wp2_with fail
  refine (HW.out _).mono ?_
  rintro e w2 ⟨rfl, rfl⟩
  by_cases hw : n = 0
  · have hlet : letB c = false := by
      rcases hb : letB c with _ | _
      · rfl
      · have h1 := HN.out
        rw [HCR.out, wrdL, hb, hw] at h1
        simp [runL, let_wrd hb] at h1
    have HLET := Lib.hid hlet
    have HTOK := Lib.hid (show tokL l = (if digB c then
      if 9 < runL digB l then none else some (⟨4, [], decV (l.take (runL digB l))⟩, runL digB l)
    else if c = 39 then (txtL r).map fun x => (⟨5, x.1, 0⟩, x.2 + 1)
    else if c = 35 then
      if symL r = 0 then none else some (⟨6, r.take (symL r), 0⟩, symL r + 1)
    else if c = 58 ∧ r[0]? = some 61 then some (⟨7, [58, 61], 0⟩, 2)
    else if markL.contains c then some (⟨7, [c], 0⟩, 1)
    else if runL binB l = 0 then none else some (⟨3, l.take (min 2 (runL binB l)), 0⟩, min 2 (runL binB l))) by rw [HCR.out, tokL, hlet]; rfl)
    subst hw
    clear hlet he he1 hwl
    have hb : Blk (w.alloc (.cells #[.int .i64 0, .string ⟨#[]⟩, .int .i64 0, .int .i64 0] 30)) w.heap.size 30 tok0 := Blk.new w _ _
    have HM0 := Lib.hid ((Mod.refl Nil w).alloc (.cells #[.int .i64 0, .string ⟨#[]⟩, .int .i64 0, .int .i64 0] 30))
    have HB0 := Lib.hid hb
    clear hb
    go_wp2_with fail
    generalize hW : World.alloc w (.cells #[.int .i64 0, .string ⟨#[]⟩, .int .i64 0, .int .i64 0] 30) = W at HM0 HB0 ⊢
    clear hW
    refine (digit_any c _).mono ?_
    rintro e w3 ⟨rfl, rfl⟩
    rcases hd : digB c with _ | _
    · rw [hd] at HTOK
      clear hd
      have hrl : r.length ≤ 5000 := by have := HCR.out; rw [this] at hl; simp at hl; omega
      have hlr : l.length = r.length + 1 := by rw [HCR.out]; simp
      by_cases h39 : c = 39
      · have HX := Lib.hid (show tokL l = (txtL r).map fun x => (⟨5, x.1, 0⟩, x.2 + 1) by rw [HTOK.out, if_pos h39]; rfl)
        have HT := Lib.hid (scText_any l hl h0 W)
        subst h39
        go_wp2_with fail
        refine HT.out.mono ?_
        rintro e w4 ⟨rfl, hm⟩
        have hb : Blk w4 w.heap.size 30 tok0 := HB0.out.keep hm id
        obtain ⟨hk0, hk1, hk2, hk3, hf0, hf1, hf2, hf3⟩ := tok_facts hb
        have HB := Lib.hid hb
        have HM := Lib.hid (HM0.out.trans hm)
        clear hb hm
        go_wp2_with fail
        try simp only [Exit.inBlock, Exit.then]
        refine tok_end HB.out HM.out ⟨5, (txtR l).1, 0⟩ (txtR l).2 ?_ rfl rfl rfl
        rw [HX.out]
        unfold txtR
        rw [HCR.out, List.drop_succ_cons, List.drop_zero]
        rcases txtL r with _ | ⟨t, k⟩
        · exact .inr ⟨rfl, rfl⟩
        · exact .inl ⟨rfl, by simp⟩
      · have hne : ((c.toNat : Int) == 39) = false := ne_of_u8 h39
        by_cases h35 : c = 35
        · have HX := Lib.hid (show tokL l = if symL r = 0 then none else some (⟨6, r.take (symL r), 0⟩, symL r + 1) by rw [HTOK.out, if_neg h39, if_pos h35]; rfl)
          have HT := Lib.hid (scSymbol_any r hrl W)
          have he : (str l).extract 1 (r.length + 1) = str r := by rw [str_extract, HCR.out]; simp
          have hsl : symL r ≤ r.length := symTo_le r r.length
          obtain ⟨k, hk⟩ : ∃ k, k = symL r := ⟨_, rfl⟩
          rw [← hk] at HX HT hsl
          have he2 : (str l).extract 1 (k + 1) = str (r.take k) := by rw [str_extract, HCR.out]; simp
          clear hk h39
          subst h35
          go_wp2_with fail
          refine HT.out.mono ?_
          rintro e w4 ⟨rfl, hm⟩
          have hb : Blk w4 w.heap.size 30 tok0 := HB0.out.keep hm id
          obtain ⟨hk0, hk1, hk2, hk3, hf0, hf1, hf2, hf3⟩ := tok_facts hb
          have HB := Lib.hid hb
          have HM := Lib.hid (HM0.out.trans hm)
          clear hb hm
          by_cases hk0 : k = 0
          · have HY := Lib.hid (show tokL l = none by rw [HX.out, if_pos hk0])
            subst hk0
            go_wp2_with fail
            try simp only [Exit.inBlock, Exit.then]
            exact tok_end HB.out HM.out ⟨0, [], 0⟩ 0 (.inr ⟨HY.out, rfl⟩) rfl rfl rfl
          · have HY := Lib.hid (show tokL l = some (⟨6, r.take k, 0⟩, k + 1) by rw [HX.out, if_neg hk0])
            have hk0' : ((k : Int) == 0) = false := by simp [hk0]
            clear hk0
            go_wp2_with fail
            try simp only [Exit.inBlock, Exit.then]
            exact tok_end HB.out HM.out ⟨6, r.take k, 0⟩ (k + 1) (.inl ⟨HY.out, by omega⟩) rfl rfl rfl
        · have hne2 : ((c.toNat : Int) == 35) = false := ne_of_u8 h35
          have hpre : Lib.hasPrefix l [58, 61] = decide (c = 58 ∧ r[0]? = some 61) := by
            rw [HCR.out]
            unfold Lib.hasPrefix
            rw [Bool.eq_iff_iff]
            cases r with
            | nil => simp [List.isPrefixOf]
            | cons d q =>
              simp [List.isPrefixOf]
              exact ⟨fun ⟨a, b⟩ => ⟨a.symm, b.symm⟩, fun ⟨a, b⟩ => ⟨a.symm, b.symm⟩⟩
          have HPRE := Lib.hid hpre
          have HTOK2 := Lib.hid (show tokL l = if c = 58 ∧ r[0]? = some 61 then some (⟨7, [58, 61], 0⟩, 2)
            else if markL.contains c then some (⟨7, [c], 0⟩, 1)
            else if runL binB l = 0 then none else some (⟨3, l.take (min 2 (runL binB l)), 0⟩, min 2 (runL binB l)) by rw [HTOK.out, if_neg h39, if_neg h35]; rfl)
          clear hpre h39 h35
          obtain ⟨hk0, hk1, hk2, hk3, hf0, hf1, hf2, hf3⟩ := tok_facts HB0.out
          have HB := HB0
          have HM := HM0
          go_wp2_with fail
          refine (Tryz.strings_HasPrefix (str l) (str [58, 61]) _).mono ?_
          rintro e w4 ⟨rfl, rfl⟩
          rw [show Lib.hasPrefix (str l).data.toList (str [58, 61]).data.toList = decide (c = 58 ∧ r[0]? = some 61) from HPRE.out]
          by_cases hme : c = 58 ∧ r[0]? = some 61
          · have HX := Lib.hid (show tokL l = some (⟨7, [58, 61], 0⟩, 2) by rw [HTOK2.out, if_pos hme])
            rw [show decide (c = 58 ∧ r[0]? = some 61) = true by simpa using hme]
            clear hme
            go_wp2_with fail
            try simp only [Exit.inBlock, Exit.then]
            exact tok_end HB.out HM.out ⟨7, [58, 61], 0⟩ 2 (.inl ⟨HX.out, by omega⟩) rfl rfl rfl
          · rw [show decide (c = 58 ∧ r[0]? = some 61) = false by simpa using hme]
            have HTOK3 := Lib.hid (show tokL l = if markL.contains c then some (⟨7, [c], 0⟩, 1)
              else if runL binB l = 0 then none else some (⟨3, l.take (min 2 (runL binB l)), 0⟩, min 2 (runL binB l)) by rw [HTOK2.out, if_neg hme])
            have hix : (0 ≤ Lib.indexByte (str markL).data.toList c) ↔ markL.contains c = true := indexByte_pos markL c
            clear hme
            rcases hmk : markL.contains c with _ | _
            · rw [hmk] at hix
              have hlt : ¬ (0 ≤ Lib.indexByte (str markL).data.toList c) := fun h => by cases hix.1 h
              have HTOK4 := Lib.hid (show tokL l = if runL binB l = 0 then none else some (⟨3, l.take (min 2 (runL binB l)), 0⟩, min 2 (runL binB l)) by rw [HTOK3.out, hmk]; rfl)
              clear hmk hix
              go_wp2_with fail
              refine (Tryz.strings_IndexByte (str markL) _ _).mono ?_
              rw [u8_back]
              rintro e w4 ⟨rfl, rfl⟩
              obtain ⟨ix, hix⟩ : ∃ ix, ix = Lib.indexByte (str markL).data.toList c := ⟨_, rfl⟩
              rw [← hix] at hlt ⊢
              clear hix
              have HBN := Lib.hid (fun w => scBin_any l (by omega) w)
              obtain ⟨k, hk⟩ : ∃ k, k = min 2 (runL binB l) := ⟨_, rfl⟩
              rw [← hk] at HBN HTOK4
              have hkl : k ≤ l.length := by have := runL_le binB l; omega
              have he := str_take l k
              have HKK := Lib.hid hk
              clear hk
              go_wp2_with fail
              refine (HBN.out _).mono ?_
              rintro e w4 ⟨rfl, rfl⟩
              go_wp2_with fail
              try simp only [Exit.inBlock, Exit.then]
              refine tok_end HB.out HM.out ⟨3, l.take k, 0⟩ k ?_ rfl rfl rfl
              have h1 := HKK.out
              rw [HTOK4.out]
              by_cases h0 : runL binB l = 0
              · exact .inr ⟨if_pos h0, by omega⟩
              · exact .inl ⟨if_neg h0, by omega⟩
            · rw [hmk] at hix
              have hlt : 0 ≤ Lib.indexByte (str markL).data.toList c := hix.2 rfl
              have HX := Lib.hid (show tokL l = some (⟨7, [c], 0⟩, 1) by rw [HTOK3.out, hmk]; rfl)
              clear hmk hix
              go_wp2_with fail
              refine (Tryz.strings_IndexByte (str markL) _ _).mono ?_
              rw [u8_back]
              rintro e w4 ⟨rfl, rfl⟩
              obtain ⟨ix, hix⟩ : ∃ ix, ix = Lib.indexByte (str markL).data.toList c := ⟨_, rfl⟩
              rw [← hix] at hlt ⊢
              clear hix
              have he : (str l).extract 0 1 = str [c] := by rw [str_extract, HCR.out]; simp
              go_wp2_with fail
              try simp only [Exit.inBlock, Exit.then]
              exact tok_end HB.out HM.out ⟨7, [c], 0⟩ 1 (.inl ⟨HX.out, by omega⟩) rfl rfl rfl
    · rw [hd] at HTOK
      have hpos : 0 < runL digB l := by rw [HCR.out, runL, if_pos hd]; omega
      have hle := runL_le digB l
      have hall := runL_take digB l _ (Nat.le_refl (runL digB l))
      have HRUN := Lib.hid (run_any 26 (.inr (.inl rfl)) digB digit_any l (by omega) W)
      unfold fnv at HRUN
      obtain ⟨k, hk⟩ : ∃ k, k = runL digB l := ⟨_, rfl⟩
      rw [← hk] at HRUN HTOK hpos hle hall
      have hlen : (l.take k).length = k := by rw [List.length_take]; omega
      have he := str_take l k
      have HX := Lib.hid (show tokL l = if 9 < k then none else some (⟨4, [], decV (l.take k)⟩, k) from HTOK.out)
      have HAT := Lib.hid (atoi_digits (by rw [hlen]; exact hpos) hall)
      clear hk hd hall
      obtain ⟨hk0, hk1, hk2, hk3, hf0, hf1, hf2, hf3⟩ := tok_facts HB0.out
      have HB := HB0
      have HM := HM0
      go_wp2_with fail
      refine HRUN.out.mono ?_
      rintro e w4 ⟨rfl, rfl⟩
      by_cases h9 : 9 < k
      · have HY := Lib.hid (show tokL l = none by rw [HX.out, if_pos h9])
        go_wp2_with fail
        try simp only [Exit.inBlock, Exit.then]
        exact tok_end HB.out HM.out ⟨0, [], 0⟩ 0 (.inr ⟨HY.out, rfl⟩) rfl rfl rfl
      · have HY := Lib.hid (show tokL l = some (⟨4, [], decV (l.take k)⟩, k) by rw [HX.out, if_neg h9])
        clear hk0 hk1 hk2 hk3 hf0 hf1 hf2 hf3
        go_wp2_with fail
        refine (Tryz.strconv_Atoi (str (l.take k)) (decV (l.take k)) (by rw [str_size, hlen]; omega) HAT.out _).mono ?_
        rintro e w5 ⟨rfl, t, rfl⟩
        have hm : Mod Nil W (Lib.bytesWorld W 5 t) := (Mod.refl _ _).bytes _ _
        generalize Lib.bytesWorld W 5 t = w4 at hm ⊢
        clear HB HM
        have hb : Blk w4 w.heap.size 30 tok0 := HB0.out.keep hm id
        obtain ⟨hk0, hk1, hk2, hk3, hf0, hf1, hf2, hf3⟩ := tok_facts hb
        have HB := Lib.hid hb
        have HM := Lib.hid (HM0.out.trans hm)
        clear hb hm
        go_wp2_with fail
        try simp only [Exit.inBlock, Exit.then]
        exact tok_end HB.out HM.out ⟨4, [], decV (l.take k)⟩ k (.inl ⟨HY.out, hpos⟩) rfl rfl rfl
  · have hw' : 0 < n := by omega
    have HL : letB c = true ∧ n = runL wrdB l := by
      obtain ⟨h1, d, q, h2, h3⟩ := wrdL_run (d := l) (by rw [← HN.out]; exact hw')
      rw [HCR.out] at h2
      injection h2 with h2 _
      exact ⟨by rw [h2]; exact h3, by rw [HN.out]; exact h1⟩
    have HIS := Lib.hid (show nmIs (l.take n) = decide (n ≤ 40) by
      have h1 : (l.take n).all wrdB = true := runL_take wrdB l n (by rw [HL.2]; exact Nat.le_refl _)
      have h2 : (l.take n).length = n := by rw [List.length_take]; omega
      unfold nmIs
      rw [h1, h2]
      obtain ⟨m, rfl⟩ : ∃ m, n = m + 1 := ⟨n - 1, by omega⟩
      rw [HCR.out, List.take_succ_cons]
      simp [HL.1])
    have HTOK := Lib.hid (show tokL l = if 40 < n then none else if kwB l n then some (⟨2, l.take (n + 1), 0⟩, n + 1) else some (⟨1, l.take n, 0⟩, n) by
      rw [HL.2]
      obtain ⟨h1, _⟩ := HL
      have h2 := HCR.out
      rw [h2, tokL, if_pos h1])
    clear hw HL
    go_wp2_with fail
    refine (nmIs_any _ (by rw [List.length_take]; omega) _).mono ?_
    rintro e w3 ⟨rfl, hm⟩
    have hb : Blk w3 w.heap.size 30 tok0 := (Blk.new w _ _).keep hm id
    obtain ⟨hk0, hk1, hk2, hk3, hf0, hf1, hf2, hf3⟩ := tok_facts hb
    have HB := Lib.hid hb
    have HM := Lib.hid (((Mod.refl Nil w).alloc _).trans hm)
    clear hb hm
    by_cases h40 : n ≤ 40
    · have hi : nmIs (l.take n) = true := by rw [HIS.out]; simp [h40]
      rw [hi]
      clear hi
      have HKW := Lib.hid (scKeyword_any l n (by omega) hwl w3)
      rcases hk : kwB l n with _ | _
      · rw [hk] at HKW
        have HX := Lib.hid (show tokL l = some (⟨1, l.take n, 0⟩, n) by rw [HTOK.out, if_neg (by omega), hk]; rfl)
        clear hk
        go_wp2_with fail
        refine HKW.out.mono ?_
        rintro e w4 ⟨rfl, rfl⟩
        go_wp2_with fail
        try simp only [Exit.inBlock, Exit.then]
        exact tok_end HB.out HM.out ⟨1, l.take n, 0⟩ n (.inl ⟨HX.out, hw'⟩) rfl rfl rfl
      · rw [hk] at HKW
        have HX := Lib.hid (show tokL l = some (⟨2, l.take (n + 1), 0⟩, n + 1) by rw [HTOK.out, if_neg (by omega), hk]; rfl)
        have hlt : n < l.length := by
          unfold kwB at hk
          simp at hk
          exact (List.getElem?_eq_some_iff.1 hk.1).1
        clear hk
        go_wp2_with fail
        refine HKW.out.mono ?_
        rintro e w4 ⟨rfl, rfl⟩
        go_wp2_with fail
        try simp only [Exit.inBlock, Exit.then]
        exact tok_end HB.out HM.out ⟨2, l.take (n + 1), 0⟩ (n + 1) (.inl ⟨HX.out, by omega⟩) rfl rfl rfl
    · have hi : nmIs (l.take n) = false := by rw [HIS.out]; simp [h40]
      rw [hi]
      clear hi
      have HX := Lib.hid (show tokL l = none by rw [HTOK.out, if_pos (by omega)])
      go_wp2_with fail
      try simp only [Exit.inBlock, Exit.then]
      exact tok_end HB.out HM.out ⟨0, [], 0⟩ 0 (.inr ⟨HX.out, rfl⟩) rfl rfl rfl
end Go.Proofs.YtefloadjolpgbaaGreatDoor

namespace Go.Proofs.YtefloadjolpgbaaGreatDoor
open Go.RowKit

def blankL : List UInt8 := [32, 9, 10, 13]
/-- How far blanks and remarks go; false: a remark that does not end, from there. -/
def skp : List UInt8 → Nat → Option Nat → Nat × Bool
  | [], a, none => (a, true)
  | [], _, some s => (s, false)
  | c :: r, a, none => if blankL.contains c then skp r (a + 1) none else if c = 34 then skp r (a + 1) (some a) else (a, true)
  | c :: r, a, some s => if c = 34 then skp r (a + 1) none else skp r (a + 1) (some s)

theorem skp_no : ∀ (r : List UInt8) (a s : Nat), Lib.indexByte r 34 = -1 → skp r a (some s) = (s, false)
  | [], _, _, _ => rfl
  | c :: r, a, s, h => by
    have hg := Lib.indexByte_ge r 34
    rw [Lib.indexByte] at h
    by_cases hc : c = 34
    · simp [hc] at h
    · have hb : (c == 34) = false := by simp [hc]
      rw [hb] at h
      simp only [Bool.false_eq_true, if_false] at h
      rw [skp, if_neg hc]
      refine skp_no r _ _ ?_
      split at h
      · rename_i h1
        simpa using h1
      · omega
theorem skp_yes : ∀ (r : List UInt8) (a s n : Nat), Lib.indexByte r 34 = (n : Int) → skp r a (some s) = skp (r.drop (n + 1)) (a + n + 1) none
  | [], _, _, n, h => by simp [Lib.indexByte] at h
  | c :: r, a, s, n, h => by
    have hg := Lib.indexByte_ge r 34
    rw [Lib.indexByte] at h
    by_cases hc : c = 34
    · simp [hc] at h
      have : n = 0 := by omega
      subst this
      rw [skp, if_pos hc]
      rfl
    · have hb : (c == 34) = false := by simp [hc]
      rw [hb] at h
      simp only [Bool.false_eq_true, if_false] at h
      rw [skp, if_neg hc]
      split at h
      · omega
      · rename_i h1
        simp at h1
        obtain ⟨m, rfl⟩ : ∃ m, n = m + 1 := ⟨n - 1, by omega⟩
        rw [skp_yes r (a + 1) s m (by omega), show a + 1 + m + 1 = a + (m + 1) + 1 by omega]
        rfl
theorem indexByte_lt (l : List UInt8) (c : UInt8) : Lib.indexByte l c < l.length := by
  induction l with
  | nil => simp [Lib.indexByte]
  | cons b r ih =>
    rw [Lib.indexByte]
    split
    · simp <;> omega
    · split
      · simp <;> omega
      · simp <;> omega

structure SkSt (l : List UInt8) (a : Nat) : Prop where
  le : a ≤ l.length
  eq : skp l 0 none = skp (l.drop a) a none

set_option maxHeartbeats 1600000 in
set_option maxRecDepth 100000 in
theorem scSkip_any (l : List UInt8) (hl : l.length ≤ 5000) (w : World) : Calls Tryz.prog 17 #[.string (str l)] w fun e w' => e = .returned (.tuple #[.int .i64 (skp l 0 none).1, .bool (skp l 0 none).2]) ∧ w = w' := by
  have hsz := str_size l
  go_enter Tryz.func17, Tryz.ntmps17
  go_wp2_with fail
  go_loopw [4] (fun v wr => ∃ a, v = .int .i64 (a : Nat) ∧ SkSt l a ∧ w = wr) (fun v _ => l.length - (intOf v).toNat)
  case atStart => exact ⟨0, rfl, ⟨Nat.zero_le _, rfl⟩, rfl⟩
  case round =>
    obtain ⟨a, rfl, hst, rfl⟩ := hrel
    have HST := Lib.hid hst
    clear hst
    by_cases hi : a < l.length
    · obtain ⟨c, hc⟩ : ∃ c, l[a]? = some c := ⟨_, List.getElem?_eq_getElem hi⟩
      have hg := str_getE hc (by omega)
      have HD := Lib.hid (show l.drop a = c :: l.drop (a + 1) by rw [List.drop_eq_getElem_cons hi, (List.getElem?_eq_some_iff.1 hc).2])
      have hix : (0 ≤ Lib.indexByte (str blankL).data.toList c) ↔ blankL.contains c = true := indexByte_pos blankL c
      clear hc
      rcases hbl : blankL.contains c with _ | _
      · rw [hbl] at hix
        have hlt : ¬ (0 ≤ Lib.indexByte (str blankL).data.toList c) := fun h => by cases hix.1 h
        have HBL := Lib.hid hbl
        clear hbl hix
        go_wp2_with fail
        refine (Tryz.strings_IndexByte (str blankL) _ _).mono ?_
        rw [u8_back]
        rintro e w4 ⟨rfl, rfl⟩
        obtain ⟨ix, hix⟩ : ∃ ix, ix = Lib.indexByte (str blankL).data.toList c := ⟨_, rfl⟩
        rw [← hix] at hlt ⊢
        clear hix
        by_cases h34 : c = 34
        · have he : (str l).extract (a + 1) l.length = str (l.drop (a + 1)) := str_drop l (a + 1)
          have HSK := Lib.hid (show skp l 0 none = skp (l.drop (a + 1)) (a + 1) (some a) by rw [HST.out.eq, HD.out, skp, HBL.out, if_pos h34]; rfl)
          have hge := Lib.indexByte_ge (l.drop (a + 1)) 34
          have hlt2 := indexByte_lt (l.drop (a + 1)) 34
          rw [List.length_drop] at hlt2
          have HNO := Lib.hid (skp_no (l.drop (a + 1)) (a + 1) a)
          have HYES := Lib.hid (skp_yes (l.drop (a + 1)) (a + 1) a)
          obtain ⟨ix2, hix2⟩ : ∃ ix, ix = Lib.indexByte (l.drop (a + 1)) 34 := ⟨_, rfl⟩
          rw [← hix2] at HNO HYES hge hlt2
          have HIX2 := Lib.hid hix2
          clear hix2
          subst h34
          go_wp2_with fail
          refine (Tryz.strings_IndexByte (str (l.drop (a + 1))) _ _).mono ?_
          rw [show Lib.indexByte (str (l.drop (a + 1))).data.toList (Int.toNat 34).toUInt8 = ix2 from HIX2.out.symm]
          rintro e w5 ⟨rfl, rfl⟩
          by_cases hneg : ix2 < 0
          · have HX := Lib.hid (show skp l 0 none = (a, false) by rw [HSK.out]; exact HNO.out (by omega))
            go_wp2_with fail
            go_ret2
            rw [HX.out]
            exact ⟨rfl, rfl⟩
          · obtain ⟨n, rfl⟩ : ∃ n : Nat, ix2 = n := ⟨ix2.toNat, by omega⟩
            have HX := Lib.hid (show skp l 0 none = skp (l.drop (a + (n + 2))) (a + (n + 2)) none by
              rw [HSK.out, HYES.out n rfl, List.drop_drop]
              congr 1
              · congr 1
                omega
              · omega)
            go_wp2_with fail
            refine ⟨⟨a + (n + 2), ?_, ⟨by omega, HX.out⟩, trivial⟩, ?_⟩
            · simp <;> omega
            · simp [intOf]
              omega
        · have hne : ((c.toNat : Int) == 34) = false := ne_of_u8 h34
          have HX := Lib.hid (show skp l 0 none = (a, true) by rw [HST.out.eq, HD.out, skp, HBL.out, if_neg h34]; rfl)
          clear h34
          go_wp2_with fail
          go_ret2
          rw [HX.out]
          exact ⟨rfl, rfl⟩
      · rw [hbl] at hix
        have hlt : 0 ≤ Lib.indexByte (str blankL).data.toList c := hix.2 rfl
        have HX := Lib.hid (show skp l 0 none = skp (l.drop (a + 1)) (a + 1) none by rw [HST.out.eq, HD.out, skp, hbl]; rfl)
        clear hbl hix
        go_wp2_with fail
        refine (Tryz.strings_IndexByte (str blankL) _ _).mono ?_
        rw [u8_back]
        rintro e w4 ⟨rfl, rfl⟩
        obtain ⟨ix, hix⟩ : ∃ ix, ix = Lib.indexByte (str blankL).data.toList c := ⟨_, rfl⟩
        rw [← hix] at hlt ⊢
        clear hix
        go_wp2_with fail
        refine ⟨⟨a + 1, ?_, ⟨hi, HX.out⟩, trivial⟩, ?_⟩
        · simp <;> omega
        · simp [intOf]
          omega
    · have HX := Lib.hid (show skp l 0 none = (a, true) by
        have hd : l.drop a = [] := List.drop_eq_nil_of_le (by omega)
        rw [HST.out.eq, hd]
        rfl)
      go_wp2_with fail
      go_ret2
      rw [HX.out]
      exact ⟨rfl, rfl⟩

/-- What stands next: where; the token, and how far it goes; none: neither a token nor the end. -/
def nxtL (d : List UInt8) : Nat × Option (Tok × Nat) :=
  if (skp d 0 none).2 then
    if (d.drop (skp d 0 none).1).isEmpty then ((skp d 0 none).1, some (⟨0, [], 0⟩, 0)) else ((skp d 0 none).1, tokL (d.drop (skp d 0 none).1))
  else ((skp d 0 none).1, none)

theorem skp_le : ∀ (d : List UInt8) (a : Nat) (st : Option Nat), (∀ s, st = some s → s ≤ a) → (skp d a st).1 ≤ a + d.length
  | [], a, none, _ => Nat.le_refl _
  | [], a, some s, h => h s rfl
  | c :: r, a, none, _ => by
    rw [skp]
    split
    · have := skp_le r (a + 1) none (fun s h => by cases h)
      simp
      omega
    · split
      · have := skp_le r (a + 1) (some a) (fun s h => by cases h; omega)
        simp
        omega
      · simp
  | c :: r, a, some s, h => by
    rw [skp]
    split
    · have := skp_le r (a + 1) none (fun s h => by cases h)
      simp
      omega
    · have := skp_le r (a + 1) (some s) (fun s' h' => by cases h'; have := h s rfl; omega)
      simp
      omega

theorem tokL_len {l : List UInt8} {t : Tok} {k : Nat} (h : tokL l = some (t, k)) : 1 ≤ k ∧ k ≤ l.length ∧ 1 ≤ t.kind := by
  have hw := runL_le wrdB l
  have hd := runL_le digB l
  have hb := runL_le binB l
  cases l with
  | nil => cases h
  | cons c r =>
    have hwp : letB c = true → 0 < runL wrdB (c :: r) := fun hc => by rw [runL, if_pos (let_wrd hc)]; omega
    have hdp : digB c = true → 0 < runL digB (c :: r) := fun hc => by rw [runL, if_pos hc]; omega
    rw [tokL] at h
    split at h
    · rename_i hc
      have := hwp hc
      split at h
      · cases h
      · split at h
        · rename_i hk
          injection h with h
          injection h with h1 h2
          subst h1 h2
          unfold kwB at hk
          simp at hk
          have := (List.getElem?_eq_some_iff.1 hk.1).1
          exact ⟨by omega, this, by simp⟩
        · injection h with h
          injection h with h1 h2
          subst h1 h2
          exact ⟨this, hw, by simp⟩
    · split at h
      · rename_i hc
        have := hdp hc
        split at h
        · cases h
        · injection h with h
          injection h with h1 h2
          subst h1 h2
          exact ⟨this, hd, by simp⟩
      · split at h
        · rcases hx : txtL r with _ | ⟨t', k'⟩
          · rw [hx] at h; cases h
          · rw [hx] at h
            injection h with h
            injection h with h1 h2
            subst h1 h2
            have := txtL_le r.length r (Nat.le_refl _) hx
            simp
            omega
        · split at h
          · split at h
            · cases h
            · injection h with h
              injection h with h1 h2
              subst h1 h2
              have := symTo_le r r.length
              unfold symL
              simp
              omega
          · split at h
            · rename_i hc
              injection h with h
              injection h with h1 h2
              subst h1 h2
              have := (List.getElem?_eq_some_iff.1 hc.2).1
              simp
              omega
            · split at h
              · injection h with h
                injection h with h1 h2
                subst h1 h2
                simp
              · split at h
                · cases h
                · injection h with h
                  injection h with h1 h2
                  subst h1 h2
                  exact ⟨by omega, by omega, by simp⟩

theorem results_cell_tmp2 {fn : Func} {p u v : Tmp} {ty : TypeId} (h : fn.results = #[.cell p ty, .tmp u, .tmp v]) (tmps : Array Value) (P : Program) (w : World) :
    (results fn tmps).run P w =
      ((asAddr (tmps.getD p undef)).run P w).andThen fun a w₁ => ((loadVar ty a).run P w₁).andThen fun x w₂ => .ok (.tuple #[x, tmps.getD u undef, tmps.getD v undef]) w₂ := by
  simp only [results, h]
  simp [Sem.run_bind, Result.andThen]

def NxtRes (l : List UInt8) (a : Nat) (w : World) (e : Ending) (w' : World) : Prop :=
  ∃ t k, e = .returned (.tuple #[tokV t (a + (nxtL (l.drop a)).1), .int .i64 (a + (nxtL (l.drop a)).1 + k : Nat), .bool (nxtL (l.drop a)).2.isSome]) ∧ (∀ x, (nxtL (l.drop a)).2 = some x → x = (t, k)) ∧ Mod Nil w w'

theorem nxt_end {l : List UInt8} {a : Nat} {w w3 : World} {ac : Act} {cs : Array Value} (hb : Blk w3 w.heap.size 30 cs) (hs : cs.size = 4) (hm : Mod Nil w w3) (t : Tok) (k at_ : Nat) (hat : at_ = a + (nxtL (l.drop a)).1) (hc : ∀ x, (nxtL (l.drop a)).2 = some x → x = (t, k))
    (hp : ac.tmps.getD 4 undef = .pointer (some ⟨w.heap.size, 0, none⟩)) (h5 : ac.tmps.getD 5 undef = .int .i64 (at_ + k : Nat)) (h6 : ac.tmps.getD 6 undef = .bool (nxtL (l.drop a)).2.isSome) (hd : ac.defers = []) :
    bodyPost Tryz.prog Tryz.f10 (fun e w' => NxtRes l a w e w') .ret ac (tokSet w3 w.heap.size t at_) := by
  subst hat
  refine bodyPost_ret (v := .tuple #[tokV t (a + (nxtL (l.drop a)).1), .int .i64 (a + (nxtL (l.drop a)).1 + k : Nat), .bool (nxtL (l.drop a)).2.isSome]) ?_ hd ⟨t, k, rfl, hc, tokSet_mod hm (.inr (Nat.le_refl _)) t _⟩
  rw [results_cell_tmp2 rfl, hp]
  have := tok_load (tokSet_blk hb hs t (a + (nxtL (l.drop a)).1)) rfl
  simp [asAddr, Result.andThen, this, h5, h6, tokV]

set_option maxHeartbeats 1600000 in
set_option maxRecDepth 100000 in
theorem scNext_any (l : List UInt8) (a : Nat) (hl : l.length ≤ 5000) (ha : a ≤ l.length) (w : World) : Calls Tryz.prog 10 #[.string (str l), .int .i64 a] w fun e w' => NxtRes l a w e w' := by
  have hsz := str_size l
  have he := str_drop l a
  have hdl : (l.drop a).length = l.length - a := List.length_drop
  have HSK := Lib.hid (fun w => scSkip_any (l.drop a) (by omega) w)
  have hle := skp_le (l.drop a) 0 none (fun s h => by cases h)
  obtain ⟨n, hn⟩ : ∃ n, n = (skp (l.drop a) 0 none).1 := ⟨_, rfl⟩
  obtain ⟨ok, hok⟩ : ∃ ok, ok = (skp (l.drop a) 0 none).2 := ⟨_, rfl⟩
  have HNX := Lib.hid (show nxtL (l.drop a) = if ok then if ((l.drop a).drop n).isEmpty then (n, some (⟨0, [], 0⟩, 0)) else (n, tokL ((l.drop a).drop n)) else (n, none) by rw [hok, hn]; rfl)
  rw [← hn, ← hok] at HSK
  rw [← hn] at hle
  have hnb : a + n ≤ l.length := by omega
  have he2 : (str l).extract (a + n) l.length = str (l.drop (a + n)) := str_drop l (a + n)
  clear hn hok
  go_enter Tryz.func10, Tryz.ntmps10
  go_wp2_with fail
  have hb : Blk (w.alloc (.cells #[.int .i64 0, .string ⟨#[]⟩, .int .i64 0, .int .i64 0] 30)) w.heap.size 30 tok0 := Blk.new w _ _
  have HM0 := Lib.hid ((Mod.refl Nil w).alloc (.cells #[.int .i64 0, .string ⟨#[]⟩, .int .i64 0, .int .i64 0] 30))
  have HB0 := Lib.hid hb
  clear hb
  generalize hW : World.alloc w (.cells #[.int .i64 0, .string ⟨#[]⟩, .int .i64 0, .int .i64 0] 30) = W at HM0 HB0 ⊢
  clear hW
  refine (HSK.out _).mono ?_
  rintro e w2 ⟨rfl, rfl⟩
  rcases ok with _ | _
  · have HX := Lib.hid (show nxtL (l.drop a) = (n, none) from HNX.out)
    obtain ⟨hk0, hk1, hk2, hk3, hf0, hf1, hf2, hf3⟩ := tok_facts HB0.out
    go_wp2_with fail
    try simp only [Exit.inBlock, Exit.then]
    exact nxt_end HB0.out rfl HM0.out ⟨0, [], 0⟩ 0 (a + n) (by rw [HX.out]) (fun x h => by rw [HX.out] at h; cases h) rfl rfl (by rw [HX.out]; rfl) rfl
  · by_cases hend : a + n = l.length
    · have HX := Lib.hid (show nxtL (l.drop a) = (n, some (⟨0, [], 0⟩, 0)) by
        have : (l.drop a).drop n = [] := by rw [List.drop_drop]; exact List.drop_eq_nil_of_le (by omega)
        rw [HNX.out, this]
        rfl)
      have heq : ((a : Int) + (n : Int) == (l.length : Int)) = true := by simp; omega
      obtain ⟨hk0, hk1, hk2, hk3, hf0, hf1, hf2, hf3⟩ := tok_facts HB0.out
      go_wp2_with fail
      try simp only [Exit.inBlock, Exit.then]
      exact nxt_end HB0.out rfl HM0.out ⟨0, [], 0⟩ 0 (a + n) (by rw [HX.out]) (fun x h => by rw [HX.out] at h; cases h; rfl) rfl rfl (by rw [HX.out]; rfl) rfl
    · have heq : ((a : Int) + (n : Int) == (l.length : Int)) = false := by simp; omega
      have HX := Lib.hid (show nxtL (l.drop a) = (n, tokL (l.drop (a + n))) by
        have : ((l.drop a).drop n).isEmpty = false := by
          rw [List.isEmpty_eq_false_iff]
          intro h0
          have := congrArg List.length h0
          rw [List.length_drop, List.length_drop] at this
          simp at this
          omega
        rw [HNX.out, this, List.drop_drop]
        rfl)
      have HTK := Lib.hid (scToken_any (l.drop (a + n)) (by rw [List.length_drop]; omega) (by rw [List.length_drop]; omega) W)
      clear hend
      go_wp2_with fail
      refine HTK.out.mono ?_
      rintro e w3 ⟨t, k, rfl, hc, hm⟩
      have hbn : Blk w3 w.heap.size 30 tok0 := HB0.out.keep hm id
      have HC := Lib.hid hc
      have HM := Lib.hid (HM0.out.trans hm)
      clear hc hm
      have hbw := hbn.alloc (.cells #[.int .i64 t.kind, .string (str t.text), .int .i64 t.n, .int .i64 ((a : Int) + (n : Int))] 30)
      obtain ⟨hk0, hk1, hk2, hk3, hf0, hf1, hf2, hf3⟩ := tok_facts hbw
      have HB := Lib.hid hbw
      have HMW := Lib.hid (HM.out.alloc (.cells #[.int .i64 t.kind, .string (str t.text), .int .i64 t.n, .int .i64 ((a : Int) + (n : Int))] 30))
      have hkl : k ≤ 5000 := by
        rcases HC.out with ⟨h1, _⟩ | ⟨_, h1⟩
        · have := (tokL_len h1).2.1
          rw [List.length_drop] at this
          omega
        · omega
      clear hbn hbw
      simp only [tokV]
      go_wp2_with fail
      try simp only [Exit.inBlock, Exit.then]
      have hkd : (nxtL (l.drop a)).2.isSome = decide (0 < k) := by
        rw [HX.out]
        rcases HC.out with ⟨h1, h2⟩ | ⟨h1, h2⟩
        · rw [h1]
          simp [h2]
        · rw [h1]
          simp [h2]
      refine nxt_end HB.out rfl HMW.out t k (a + n) (by rw [HX.out]) (fun x h => ?_) rfl (by simp) (by rw [hkd]; rfl) rfl
      rw [HX.out] at h
      rcases HC.out with ⟨h1, h2⟩ | ⟨h1, h2⟩
      · rw [h1] at h
        cases h
        rfl
      · rw [h1] at h
        cases h
end Go.Proofs.YtefloadjolpgbaaGreatDoor

namespace Go.Proofs.YtefloadjolpgbaaGreatDoor
open Go.RowKit

/-- The tokens of a text that begins at a place; the place of the error. -/
def scanF : Nat → List UInt8 → Nat → Except Nat (List (Tok × Nat))
  | 0, _, a => .error a
  | f + 1, d, a => match nxtL d with
    | (n, none) => .error (a + n)
    | (n, some (t, k)) => if t.kind = 0 then .ok [(t, a + n)] else match scanF f (d.drop (n + k)) (a + n + k) with
      | .ok ts => .ok ((t, a + n) :: ts)
      | .error e => .error e
def pre (done : List (Tok × Nat)) : Except Nat (List (Tok × Nat)) → Except Nat (List (Tok × Nat))
  | .ok ts => .ok (done ++ ts)
  | .error e => .error e
theorem pre_nil (x : Except Nat (List (Tok × Nat))) : pre [] x = x := by cases x <;> rfl
theorem pre_cons (done : List (Tok × Nat)) (p : Tok × Nat) (x : Except Nat (List (Tok × Nat))) : pre done (match x with | .ok ts => .ok (p :: ts) | .error e => .error e) = pre (done ++ [p]) x := by
  cases x <;> simp [pre]
def allL (l : List UInt8) : Except Nat (List (Tok × Nat)) := scanF (l.length + 1) l 0
/-- What All hands back: the tokens, or the error and its place. -/
def allR (l : List UInt8) : Except (Nat × Nat) (List (Tok × Nat)) := if 4000 < l.length then .error (21, 0) else match allL l with
  | .ok ts => .ok ts
  | .error p => .error (40, p)

def tkC (p : Tok × Nat) : List Value := [.int .i64 p.1.kind, .string (str p.1.text), .int .i64 p.1.n, .int .i64 p.2]
def tkCells (ts : List (Tok × Nat)) : List Value := ts.flatMap tkC
theorem tkCells_snoc (ts : List (Tok × Nat)) (p : Tok × Nat) : tkCells (ts ++ [p]) = tkCells ts ++ tkC p := by simp [tkCells]

/-- The result of All, as values, in a world. -/
def AllIs (B : Nat) (r : Except (Nat × Nat) (List (Tok × Nat))) (e : Ending) (w' : World) : Prop := match r with
  | .error (c, p) => e = .returned (.tuple #[.slice none 0 0, .int .i64 c, .int .i64 p])
  | .ok ts => ∃ v, e = .returned (.tuple #[v, .int .i64 0, .int .i64 0]) ∧ w'.ownsRow B 30 4 v ts.length (tkCells ts)

structure AllSt (w : World) (l : List UInt8) (v : Value) (a : Nat) (done : List (Tok × Nat)) (f : Nat) (wr : World) : Prop where
  le : a ≤ l.length
  fuel : (l.drop a).length < f
  eq : allL l = pre done (scanF f (l.drop a) a)
  len : done.length ≤ a
  own : wr.ownsRow w.heap.size 30 4 v done.length (tkCells done)
  mod : Mod Nil w wr

theorem nxtL_end {d : List UInt8} {n : Nat} {t : Tok} {k : Nat} (h : nxtL d = (n, some (t, k))) : n + k ≤ d.length ∧ (t.kind = 0 ∨ 1 ≤ k) := by
  have hle := skp_le d 0 none (fun s h => by cases h)
  unfold nxtL at h
  split at h
  · split at h
    · injection h with h1 h2
      injection h2 with h2
      injection h2 with h2 h3
      subst h2 h3
      exact ⟨by omega, .inl rfl⟩
    · injection h with h1 h2
      have := tokL_len h2
      rw [List.length_drop] at this
      exact ⟨by omega, .inr this.1⟩
  · cases h

theorem cells_new (w : World) (cs : Array Value) (t : TypeId) (j : Nat) (u : Value) (h : cs.toList[j]? = some u) : (w.alloc (.cells cs t)).cell? ((⟨w.heap.size, 0, none⟩ : Addr).add j) = some u := by
  have : (⟨w.heap.size, 0, none⟩ : Addr).add j = ⟨w.heap.size, j, none⟩ := by unfold Addr.add; split <;> simp_all
  rw [this, (Blk.new w t cs).cell j]
  simpa using h

set_option maxHeartbeats 3200000 in
set_option maxRecDepth 100000 in
theorem scAll_any (l : List UInt8) (hl : l.length ≤ 9223372036854775807) (w : World) : Calls Tryz.prog 7 #[.string (str l)] w fun e w' => AllIs w.heap.size (allR l) e w' ∧ Mod Nil w w' := by
  have hsz := str_size l
  by_cases hbig : 4000 < l.length
  · have HR := Lib.hid (show allR l = .error (21, 0) by unfold allR; rw [if_pos hbig])
    go_enter Tryz.func7, Tryz.ntmps7
    go_wp2_with fail
    go_ret3
    rw [HR.out]
    exact ⟨rfl, Mod.refl _ _⟩
  · obtain ⟨i0, hi, hz0, hz1, hz2⟩ := info_parts (show (Tryz.prog.info? 30).map (fun i => (i.zero, i.size, i.bytes)) = some (some (.agg #[.int .i64 0, .string ⟨#[]⟩, .int .i64 0, .int .i64 0]), 4, 40) by kernel_rfl)
    have HRE := Lib.hid (show ∀ p, allL l = .error p → allR l = .error (40, p) from fun p h => by unfold allR; rw [if_neg hbig, h])
    have HRO := Lib.hid (show ∀ ts, allL l = .ok ts → allR l = .ok ts from fun p h => by unfold allR; rw [if_neg hbig, h])
    have HNX := Lib.hid (fun a ha w => scNext_any l a (by omega) ha w)
    have HST0 := Lib.hid (show AllSt w l (.slice none 0 0) 0 [] (l.length + 1) w from ⟨Nat.zero_le _, by simp, by rw [pre_nil]; rfl, Nat.le_refl _, World.ownsRow_nil _ _ _ _, Mod.refl _ _⟩)
    go_enter Tryz.func7, Tryz.ntmps7
    go_wp2_with fail
    go_loopw [5, 6] (fun v i wr => ∃ a done f, i = .int .i64 (a : Nat) ∧ AllSt w l v a done f wr) (fun _ v _ => l.length - (intOf v).toNat)
    case atStart => exact ⟨0, [], _, rfl, HST0.out⟩
    case round =>
      obtain ⟨a, done, f, rfl, hst⟩ := hrel
      have HST := Lib.hid hst
      have ha := hst.le
      clear hst
      go_wp2_with fail
      refine (HNX.out a ha _).mono ?_
      rintro e w2 ⟨t, k, rfl, hx, hm⟩
      have HM := Lib.hid hm
      have HX := Lib.hid hx
      clear hm hx
      obtain ⟨g, hf⟩ : ∃ g, f = g + 1 := ⟨f - 1, by have := HST.out.fuel; omega⟩
      have HF := Lib.hid hf
      clear hf
      rcases hn : nxtL (l.drop a) with ⟨n, _ | ⟨t', k'⟩⟩
      · have HE := Lib.hid (HRE.out (a + n) (by rw [HST.out.eq, HF.out, scanF, hn]; rfl))
        have HN := Lib.hid hn
        clear hn
        simp only [tokV, Option.isSome]
        go_wp2_with (go_quiet (fail))
        go_ret3
        rw [HE.out]
        exact ⟨rfl, ((HST.out.mod.trans HM.out).alloc _).drewN _⟩
      · obtain ⟨rfl, rfl⟩ : t' = t ∧ k' = k := by
          have := HX.out (t', k') (by rw [hn])
          injection this with h1 h2
          exact ⟨h1, h2⟩
        have hend := nxtL_end hn
        have HEQ := Lib.hid (show allL l = pre done (if t'.kind = 0 then .ok [(t', a + n)] else match scanF g ((l.drop a).drop (n + k')) (a + n + k') with
          | .ok ts => .ok ((t', a + n) :: ts)
          | .error e => .error e) by rw [HST.out.eq, HF.out, scanF, hn])
        have hdl : (l.drop a).length = l.length - a := List.length_drop
        have hown := own_keep HST.out.own HM.out (fun _ _ h => h)
        have HOWN := Lib.hid hown
        have hdone := HST.out.len
        have hw2 := Nat.le_trans HST.out.mod.size HM.out.size
        clear hn
        simp only [tokV, Option.isSome]
        go_wp2_with (at_builtin; refine wpList_append_own _ rfl _ _ 23 rfl w.heap.size 30 i0 (.agg #[.int .i64 0, .string ⟨#[]⟩, .int .i64 0, .int .i64 0]) 4 40 Tryz.underlying23 hi hz0 hz1 hz2 rfl (by decide) _ _ _ rfl ((hown.alloc _).alloc _) ⟨w2.heap.size + 1, 0, none⟩ 1 1 (tkC (t', a + n)) rfl rfl ?c1 ?c2 ?c3 ?c4 ?c5 ?_)
        case c1 =>
          intro j u hj
          have h := cells_new (w2.alloc (.cells #[.int .i64 t'.kind, .string (str t'.text), .int .i64 t'.n, .int .i64 ((a : Int) + (n : Int))] 30)) #[.int .i64 t'.kind, .string (str t'.text), .int .i64 t'.n, .int .i64 ((a : Int) + (n : Int))] 30 j u (by simpa [tkC] using hj)
          have e : (w2.alloc (.cells #[.int .i64 t'.kind, .string (str t'.text), .int .i64 t'.n, .int .i64 ((a : Int) + (n : Int))] 30)).heap.size = w2.heap.size + 1 := by simp
          rw [e] at h
          exact h
        case c2 => intro u hu; simp [tkC] at hu; rcases hu with rfl | rfl | rfl | rfl <;> rfl
        case c3 => unfold maxLen; omega
        case c4 => omega
        case c5 => simp; omega
        intro v' w4 hown' hgrow _
        have hblk : Blk w4 w2.heap.size 30 #[.int .i64 t'.kind, .string (str t'.text), .int .i64 t'.n, .int .i64 ((a : Int) + (n : Int))] :=
          (hgrow.block w2.heap.size (by simp; omega) (fun h => by have := (hown.lt _ h.symm).2; omega)).trans ((Blk.new w2 _ _).alloc _)
        have hkind := hblk.cell 0
        have HOWN4 := Lib.hid hown'
        have hA := ((HST.out.mod.trans HM.out).alloc (.cells #[.int .i64 t'.kind, .string (str t'.text), .int .i64 t'.n, .int .i64 ((a : Int) + (n : Int))] 30)).alloc (.cells #[.int .i64 t'.kind, .string (str t'.text), .int .i64 t'.n, .int .i64 ((a : Int) + (n : Int))] 30)
        have HM4 := Lib.hid (hA.trans' (H := Nil) (Mod.of_grown hgrow) (fun _ _ h => h) (fun k hk h => absurd ((hown.lt k h).1) (by omega)))
        clear hA
        clear hown hown' hgrow hblk
        by_cases hk0 : t'.kind = 0
        · have HE := Lib.hid (HRO.out (done ++ [(t', a + n)]) (by rw [HEQ.out, if_pos hk0]; rfl))
          have hk0' : (t'.kind : Int) = 0 := by omega
          rw [hk0'] at hkind
          clear hk0 hk0'
          go_wp2_with (go_quiet (fail))
          go_ret3
          rw [HE.out]
          refine ⟨⟨v', rfl, ?_⟩, HM4.out⟩
          have := HOWN4.out
          rw [← tkCells_snoc] at this
          simpa using this
        · have hk0' : ((t'.kind : Int) == 0) = false := by simp; omega
          have hk1 : 1 ≤ k' := hend.2.resolve_left hk0
          have hend1 := hend.1
          have HE := Lib.hid (show allL l = pre (done ++ [(t', a + n)]) (scanF g (l.drop (a + n + k')) (a + n + k')) by
            rw [HEQ.out, if_neg hk0, pre_cons, List.drop_drop, Nat.add_assoc])
          have HFU := Lib.hid (show (l.drop (a + n + k')).length < g by
            have := HST.out.fuel
            rw [HF.out] at this
            rw [List.length_drop]
            omega)
          clear hk0
          go_wp2_with (go_quiet (fail))
          refine ⟨⟨a + n + k', done ++ [(t', a + n)], g, ?_, ⟨by omega, HFU.out, HE.out, by simp; omega, ?_, HM4.out⟩⟩, ?_⟩
          · simp <;> omega
          · have := HOWN4.out
            rw [← tkCells_snoc] at this
            simpa using this
          · simp [intOf]
            omega
end Go.Proofs.YtefloadjolpgbaaGreatDoor

namespace Go.Proofs.YtefloadjolpgbaaGreatDoor
open Go.RowKit

theorem runL_app {p : UInt8 → Bool} (hp : p 10 = false) (b : List UInt8) : ∀ d : List UInt8, runL p (d ++ 10 :: b) = runL p d
  | [] => by simp [runL, hp]
  | c :: r => by
    rw [List.cons_append, runL, runL, runL_app hp b r]
theorem take_app {d b : List UInt8} {n : Nat} (h : n ≤ d.length) : (d ++ b).take n = d.take n := by
  rw [List.take_append_of_le_length h]
theorem get_app {d b : List UInt8} {n : Nat} (h : n < d.length) : (d ++ b)[n]? = d[n]? := List.getElem?_append_left h
theorem get_end (d b : List UInt8) : (d ++ 10 :: b)[d.length]? = some 10 := by simp
theorem kwB_app (d b : List UInt8) {n : Nat} (h : n ≤ d.length) : kwB (d ++ 10 :: b) n = kwB d n := by
  unfold kwB
  rcases Nat.lt_or_ge n d.length with h1 | h1
  · rw [get_app h1]
    rcases Nat.lt_or_ge (n + 1) d.length with h2 | h2
    · rw [get_app h2]
    · have : n + 1 = d.length := by omega
      rw [this, get_end, List.getElem?_eq_none (Nat.le_refl _)]
      rfl
  · have : n = d.length := by omega
    rw [this, get_end, List.getElem?_eq_none (Nat.le_refl _)]
    rfl
theorem txtL_app (b : List UInt8) : ∀ (n : Nat) (d : List UInt8), d.length ≤ n → ∀ {x : List UInt8 × Nat}, txtL d = some x → txtL (d ++ 10 :: b) = some x
  | 0, d, hl, x, h => by
    cases d with
    | nil => cases h
    | cons c r => simp at hl
  | n + 1, d, hl, x, h => by
    cases d with
    | nil => cases h
    | cons c r =>
      by_cases hc : c = 39
      · subst hc
        by_cases h0 : r[0]? = some 39
        · cases r with
          | nil => simp at h0
          | cons e q =>
            simp at h0
            subst h0
            rw [txtL_two] at h
            rcases hx : txtL q with _ | y
            · rw [hx] at h; cases h
            · rw [hx] at h
              rw [List.cons_append, List.cons_append, txtL_two, txtL_app b n q (by simp at hl; omega) hx]
              exact h
        · rw [txtL_end h0] at h
          rw [List.cons_append, txtL_end]
          · exact h
          · cases r with
            | nil => simp
            | cons e q => simpa using h0
      · rw [txtL_plain r hc] at h
        rcases hx : txtL r with _ | y
        · rw [hx] at h; cases h
        · rw [hx] at h
          rw [List.cons_append, txtL_plain _ hc, txtL_app b n r (by simp at hl; omega) hx]
          exact h
theorem kind_ten {m : List UInt8} (h : (10 : UInt8) ∈ m) : nmKind m = 0 := by
  rcases Nat.eq_zero_or_pos (nmKind m) with h0 | h0
  · exact h0
  · exfalso
    rcases kind_pos h0 with h1 | h1 | h1
    · have := List.all_eq_true.1 (nmLower_word h1).1 10 h
      exact absurd this (by decide)
    · have := List.all_eq_true.1 (bin_all h1).2 10 h
      exact absurd this (by decide)
    · rcases kw_chars h1 h with h2 | h2
      · exact absurd h2 (by decide)
      · exact absurd h2 (by decide)
theorem cand_app (d b : List UInt8) (j : Nat) : candB (d ++ 10 :: b) j = candB d j := by
  rcases Nat.lt_or_ge d.length j with h | h
  · have h1 : candB d j = false := by
      rw [Bool.eq_false_iff]
      intro hc
      have := cand_le hc
      omega
    rw [h1, Bool.eq_false_iff]
    intro hc
    have hk := cand_kind hc
    rw [kind_ten] at hk
    · omega
    · refine List.mem_of_getElem? (i := d.length) ?_
      rw [List.getElem?_take, if_pos h, get_end]
  · unfold candB
    rw [take_app h]
    have h1 : decide (j ≤ (d ++ 10 :: b).length) = decide (j ≤ d.length) := by simp; omega
    rw [h1]
    rcases Nat.eq_zero_or_pos j with h0 | h0
    · subst h0
      simp [nmKind, nmLower, nmIs, nmBin, nmKw, splitC]
    · congr 1
      cases d with
      | nil => simp at h; omega
      | cons c r =>
        show (!letB c || (c :: r ++ 10 :: b)[j - 1]? == some 58 || !(match (c :: r ++ 10 :: b)[j]? with | some d => wrdB d | none => false)) = (!letB c || (c :: r)[j - 1]? == some 58 || !(match (c :: r)[j]? with | some d => wrdB d | none => false))
        rw [get_app (by omega)]
        rcases Nat.lt_or_ge j (c :: r).length with h2 | h2
        · rw [get_app h2]
        · have : j = (c :: r).length := by omega
          rw [this, get_end, List.getElem?_eq_none (Nat.le_refl _)]
          rfl
theorem symL_app (d b : List UInt8) : symL (d ++ 10 :: b) = symL d := by
  refine symL_of ?_ fun j hj => ?_
  · rcases symTo_cand d d.length with h | h
    · exact .inl h
    · exact .inr (by rw [cand_app]; exact h)
  · rw [cand_app] at hj
    exact symTo_most d d.length j (cand_le hj) hj
theorem tokL_app (d b : List UInt8) {x : Tok × Nat} (h : tokL d = some x) : tokL (d ++ 10 :: b) = some x := by
  cases d with
  | nil => cases h
  | cons c r =>
    have hw := runL_le wrdB (c :: r)
    have hd := runL_le digB (c :: r)
    have hb := runL_le binB (c :: r)
    have hs := symTo_le r r.length
    have e1 : runL wrdB (c :: (r ++ 10 :: b)) = runL wrdB (c :: r) := runL_app (by decide) b (c :: r)
    have e2 : runL digB (c :: (r ++ 10 :: b)) = runL digB (c :: r) := runL_app (by decide) b (c :: r)
    have e3 : runL binB (c :: (r ++ 10 :: b)) = runL binB (c :: r) := runL_app (by decide) b (c :: r)
    have e4 : kwB (c :: (r ++ 10 :: b)) (runL wrdB (c :: r)) = kwB (c :: r) (runL wrdB (c :: r)) := kwB_app (c :: r) b hw
    have e5 : ∀ n, n ≤ (c :: r).length → (c :: (r ++ 10 :: b)).take n = (c :: r).take n := fun n hn => take_app (d := c :: r) hn
    rw [List.cons_append, tokL, e1, e2, e3, e4, symL_app]
    rw [tokL] at h
    split at h
    · rename_i hc
      rw [if_pos hc]
      split at h
      · cases h
      · rename_i h40
        rw [if_neg h40]
        split at h
        · rename_i hk
          have hlt : runL wrdB (c :: r) + 1 ≤ (c :: r).length := by
            unfold kwB at hk
            simp only [Bool.and_eq_true, beq_iff_eq] at hk
            exact (List.getElem?_eq_some_iff.1 hk.1).1
          rw [if_pos hk, e5 _ hlt]
          exact h
        · rename_i hk
          rw [if_neg hk, e5 _ hw]
          exact h
    · rename_i hc
      rw [if_neg hc]
      split at h
      · rename_i hdg
        rw [if_pos hdg, e5 _ hd]
        exact h
      · rename_i hdg
        rw [if_neg hdg]
        split at h
        · rename_i h39
          rw [if_pos h39]
          rcases hx : txtL r with _ | y
          · rw [hx] at h; cases h
          · rw [hx] at h
            rw [txtL_app b r.length r (Nat.le_refl _) hx]
            exact h
        · rename_i h39
          rw [if_neg h39]
          split at h
          · rename_i h35
            rw [if_pos h35, take_app (by unfold symL; exact hs)]
            exact h
          · rename_i h35
            rw [if_neg h35]
            have e6 : (c = 58 ∧ (r ++ 10 :: b)[0]? = some 61) ↔ (c = 58 ∧ r[0]? = some 61) := by
              cases r with
              | nil => simp
              | cons e q => simp
            split at h
            · rename_i hme
              rw [if_pos (e6.2 hme)]
              exact h
            · rename_i hme
              rw [if_neg (fun hh => hme (e6.1 hh))]
              split at h
              · rename_i hmk
                rw [if_pos hmk]
                exact h
              · rename_i hmk
                rw [if_neg hmk, e5 _ (Nat.le_trans (Nat.min_le_right _ _) hb)]
                exact h

theorem skp_app (e : List UInt8) : ∀ (d : List UInt8) (a : Nat) (st : Option Nat) (n : Nat), (∀ s, st = some s → s ≤ a) → skp d a st = (n, true) →
    (n < a + d.length → skp (d ++ e) a st = (n, true)) ∧ (n = a + d.length → skp (d ++ e) a st = skp e (a + d.length) none)
  | [], a, none, n, _, h => by
    injection h with h _
    subst h
    exact ⟨fun h => absurd h (by simp), fun _ => rfl⟩
  | [], a, some s, n, _, h => by
    injection h with _ h
    cases h
  | c :: r, a, none, n, hs, h => by
    rw [skp] at h
    rw [List.cons_append, skp]
    rw [List.length_cons, show a + (r.length + 1) = a + 1 + r.length by omega]
    split
    · rename_i h1
      rw [if_pos h1] at h
      exact skp_app e r (a + 1) none n (fun s h => by cases h) h
    · rename_i h1
      rw [if_neg h1] at h
      split
      · rename_i h2
        rw [if_pos h2] at h
        exact skp_app e r (a + 1) (some a) n (fun s h => by cases h; omega) h
      · rename_i h2
        rw [if_neg h2] at h
        injection h with h _
        exact ⟨fun _ => by rw [h], fun hn => by omega⟩
  | c :: r, a, some s, n, hs, h => by
    rw [skp] at h
    rw [List.cons_append, skp]
    rw [List.length_cons, show a + (r.length + 1) = a + 1 + r.length by omega]
    split
    · rename_i h1
      rw [if_pos h1] at h
      exact skp_app e r (a + 1) none n (fun s h => by cases h) h
    · rename_i h1
      rw [if_neg h1] at h
      exact skp_app e r (a + 1) (some s) n (fun s' h' => by cases h'; have := hs s rfl; omega) h
theorem skp_shift (c : Nat) : ∀ (r : List UInt8) (a : Nat) (st : Option Nat), skp r (a + c) (st.map (· + c)) = ((skp r a st).1 + c, (skp r a st).2)
  | [], a, none => rfl
  | [], a, some s => rfl
  | x :: r, a, none => by
    have h1 := skp_shift c r (a + 1) none
    have h2 := skp_shift c r (a + 1) (some a)
    rw [show a + 1 + c = a + c + 1 by omega] at h1 h2
    simp only [Option.map_none, Option.map_some] at h1 h2 ⊢
    rw [skp, skp]
    split
    · exact h1
    · split
      · exact h2
      · rfl
  | x :: r, a, some s => by
    have h1 := skp_shift c r (a + 1) none
    have h2 := skp_shift c r (a + 1) (some s)
    rw [show a + 1 + c = a + c + 1 by omega] at h1 h2
    simp only [Option.map_none, Option.map_some] at h1 h2 ⊢
    rw [skp, skp]
    split
    · exact h1
    · exact h2
theorem skp_from (r : List UInt8) (c : Nat) : skp r c none = ((skp r 0 none).1 + c, (skp r 0 none).2) := by
  have := skp_shift c r 0 none
  rw [Nat.zero_add] at this
  exact this

/-! ### the scan, without fuel -/
theorem scanF_fuel : ∀ (f g : Nat) (d : List UInt8) (a : Nat), d.length < f → d.length < g → scanF f d a = scanF g d a
  | 0, g, d, a, h, _ => by omega
  | f + 1, 0, d, a, _, h => by omega
  | f + 1, g + 1, d, a, h1, h2 => by
    rw [scanF, scanF]
    rcases hn : nxtL d with ⟨n, _ | ⟨t, k⟩⟩
    · rfl
    · simp only
      split
      · rfl
      · rename_i hk
        have he := nxtL_end hn
        have hk1 := he.2.resolve_left hk
        have hd : (d.drop (n + k)).length = d.length - (n + k) := List.length_drop
        rw [scanF_fuel f g (d.drop (n + k)) (a + n + k) (by omega) (by omega)]
def scanW (d : List UInt8) (a : Nat) : Except Nat (List (Tok × Nat)) := scanF (d.length + 1) d a
theorem scanW_eq (d : List UInt8) (a : Nat) : scanW d a = match nxtL d with
    | (n, none) => .error (a + n)
    | (n, some (t, k)) => if t.kind = 0 then .ok [(t, a + n)] else pre [(t, a + n)] (scanW (d.drop (n + k)) (a + n + k)) := by
  unfold scanW
  rw [scanF]
  rcases hn : nxtL d with ⟨n, _ | ⟨t, k⟩⟩
  · rfl
  · simp only
    split
    · rfl
    · rename_i hk
      have he := nxtL_end hn
      have hk1 := he.2.resolve_left hk
      have hd : (d.drop (n + k)).length = d.length - (n + k) := List.length_drop
      rw [scanF_fuel d.length ((d.drop (n + k)).length + 1) (d.drop (n + k)) (a + n + k) (by omega) (by omega)]
      rcases scanF ((d.drop (n + k)).length + 1) (d.drop (n + k)) (a + n + k) <;> rfl

def shiftE (c : Nat) : Except Nat (List (Tok × Nat)) → Except Nat (List (Tok × Nat))
  | .ok ts => .ok (ts.map fun p => (p.1, p.2 + c))
  | .error e => .error (e + c)
theorem shift_pre (c : Nat) (ts : List (Tok × Nat)) (x : Except Nat (List (Tok × Nat))) : shiftE c (pre ts x) = pre (ts.map fun p => (p.1, p.2 + c)) (shiftE c x) := by
  cases x <;> simp [shiftE, pre]
theorem scanW_shift (c : Nat) : ∀ (n : Nat) (d : List UInt8) (a : Nat), d.length ≤ n → scanW d (a + c) = shiftE c (scanW d a)
  | n, d, a, hl => by
    rw [scanW_eq, scanW_eq]
    rcases hn : nxtL d with ⟨m, _ | ⟨t, k⟩⟩
    · simp [shiftE]
      omega
    · simp only
      split
      · simp [shiftE]
        omega
      · rename_i hk
        have he := nxtL_end hn
        have hk1 := he.2.resolve_left hk
        have hd : (d.drop (m + k)).length = d.length - (m + k) := List.length_drop
        cases n with
        | zero => omega
        | succ n =>
          have ih := scanW_shift c n (d.drop (m + k)) (a + m + k) (by omega)
          rw [show a + c + m + k = a + m + k + c by omega, ih, shift_pre, show a + c + m = a + m + c by omega]
          rfl

/-- A token, and what stands behind it, with a line end and more behind that. -/
theorem nxtL_app (d b : List UInt8) {n k : Nat} {t : Tok} (h : nxtL d = (n, some (t, k))) (ht : t.kind ≠ 0) : nxtL (d ++ 10 :: b) = (n, some (t, k)) := by
  have hle := skp_le d 0 none (fun s h => by cases h)
  unfold nxtL at h
  split at h
  · rename_i hok
    split at h
    · injection h with _ h2
      injection h2 with h2
      injection h2 with h2 _
      exact absurd (by rw [← h2]) ht
    · rename_i hne
      injection h with h1 h2
      have hlt : n < d.length := by
        rcases Nat.lt_or_ge n d.length with h3 | h3
        · exact h3
        · exfalso
          rw [h1] at hne
          exact hne (by rw [List.drop_eq_nil_of_le h3]; rfl)
      have hs : skp d 0 none = (n, true) := by rw [← h1, ← hok]
      have h4 := (skp_app (10 :: b) d 0 none n (fun s h => by cases h) hs).1 (by omega)
      rw [h1] at h2
      have h5 : (d ++ 10 :: b).drop n = d.drop n ++ 10 :: b := List.drop_append_of_le_length (Nat.le_of_lt hlt)
      unfold nxtL
      rw [h4]
      simp only [if_true]
      rw [h5, if_neg (by simp), tokL_app _ _ h2]
  · cases h
/-- At a text's end, a line end and more behind it. -/
theorem nxtL_skip (d b : List UInt8) {n k : Nat} {t : Tok} (h : nxtL d = (n, some (t, k))) (ht : t.kind = 0) : t = ⟨0, [], 0⟩ ∧ n = d.length ∧ nxtL (d ++ 10 :: b) = ((nxtL b).1 + (d.length + 1), (nxtL b).2) := by
  have hle := skp_le d 0 none (fun s h => by cases h)
  unfold nxtL at h
  split at h
  · rename_i hok
    split at h
    · rename_i hem
      injection h with h1 h2
      injection h2 with h2
      injection h2 with h2 _
      have hn : n = d.length := by
        rw [h1, List.isEmpty_iff] at hem
        have := congrArg List.length hem
        rw [List.length_drop] at this
        simp at this
        omega
      have hs : skp d 0 none = (n, true) := by rw [← h1, ← hok]
      have h4 := (skp_app (10 :: b) d 0 none n (fun s h => by cases h) hs).2 (by omega)
      have h5 : skp (10 :: b) (0 + d.length) none = skp b (d.length + 1) none := by
        rw [skp, if_pos (by decide), Nat.zero_add]
      rw [h5, skp_from b (d.length + 1)] at h4
      have h6 : (d ++ 10 :: b).drop ((skp b 0 none).1 + (d.length + 1)) = b.drop (skp b 0 none).1 := by
        rw [List.drop_append, List.drop_eq_nil_of_le (by omega), List.nil_append, show (skp b 0 none).1 + (d.length + 1) - d.length = (skp b 0 none).1 + 1 by omega]
        rfl
      refine ⟨h2.symm, hn, ?_⟩
      unfold nxtL
      rw [h4]
      simp only
      rw [h6]
      split
      · split <;> rfl
      · rfl
    · injection h with _ h2
      have := (tokL_len h2).2.2
      omega
  · cases h

/-- The tokens of two texts with a line end between. -/
theorem scanW_join (b : List UInt8) : ∀ (n : Nat) (d : List UInt8) (a : Nat), d.length ≤ n → ∀ {ts : List (Tok × Nat)}, scanW d a = .ok ts →
    ∃ ts0, ts = ts0 ++ [(⟨0, [], 0⟩, a + d.length)] ∧ scanW (d ++ 10 :: b) a = pre ts0 (scanW b (a + (d.length + 1)))
  | n, d, a, hl, ts, h => by
    rw [scanW_eq] at h
    rcases hn : nxtL d with ⟨m, _ | ⟨t, k⟩⟩
    · rw [hn] at h
      cases h
    · rw [hn] at h
      simp only at h
      split at h
      · rename_i hk
        obtain ⟨h1, h2, h3⟩ := nxtL_skip d b hn hk
        injection h with h
        refine ⟨[], by rw [← h, h1, h2]; rfl, ?_⟩
        rw [pre_nil, scanW_eq, scanW_eq, h3]
        rcases nxtL b with ⟨m2, _ | ⟨t2, k2⟩⟩
        · simp only
          congr 1
          omega
        · simp only
          rw [show a + (m2 + (d.length + 1)) = a + (d.length + 1) + m2 by omega]
          have h6 : (d ++ 10 :: b).drop (m2 + (d.length + 1) + k2) = b.drop (m2 + k2) := by
            rw [List.drop_append, List.drop_eq_nil_of_le (by omega), List.nil_append, show m2 + (d.length + 1) + k2 - d.length = m2 + k2 + 1 by omega]
            rfl
          rw [h6]
      · rename_i hk
        have he := nxtL_end hn
        have hk1 := he.2.resolve_left hk
        have hd : (d.drop (m + k)).length = d.length - (m + k) := List.length_drop
        cases n with
        | zero => omega
        | succ n =>
          rcases hx : scanW (d.drop (m + k)) (a + m + k) with e | us
          · rw [hx] at h
            cases h
          · obtain ⟨ts0, h1, h2⟩ := scanW_join b n (d.drop (m + k)) (a + m + k) (by omega) hx
            rw [hx] at h
            injection h with h
            refine ⟨(t, a + m) :: ts0, ?_, ?_⟩
            · rw [← h, h1, show a + m + k + (d.drop (m + k)).length = a + d.length by omega]
              rfl
            · rw [scanW_eq, nxtL_app d b hn hk]
              simp only
              rw [if_neg hk, List.drop_append_of_le_length (by omega), h2, show a + m + k + ((d.drop (m + k)).length + 1) = a + (d.length + 1) by omega]
              rcases scanW b (a + (d.length + 1)) <;> rfl
end Go.Proofs.YtefloadjolpgbaaGreatDoor
