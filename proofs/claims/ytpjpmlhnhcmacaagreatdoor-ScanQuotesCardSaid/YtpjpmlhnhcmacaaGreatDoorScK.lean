/- scan.token, walked. -/
import Derived.Test.YtpjpmlhnhcmacaaGreatDoorScT
namespace Go.Proofs.YtpjpmlhnhcmacaaGreatDoor
open Go.RowKit

structure Tok where
  kind : Nat
  text : List UInt8
  n : Nat
def tokV (t : Tok) (at_ : Nat) : Value := .agg #[.int .i64 t.kind, .string (str t.text), .int .i64 t.n, .int .i64 at_]

def markL : List UInt8 := [40, 41, 91, 93, 123, 125, 46, 94, 124, 58]
def decV (l : List UInt8) : Nat := l.foldl (fun a c => a * 10 + (c.toNat - 48)) 0
/-- The token with which a text begins, and its length. -/
def tokL (l : List UInt8) : Option (Tok × Nat) := match l with
  | [] => none
  | c :: r =>
    if letB c then
      if 40 < runL wrdB l then none
      else if kwB l (runL wrdB l) then some (⟨2, l.take (runL wrdB l + 1), 0⟩, runL wrdB l + 1)
      else some (⟨1, l.take (runL wrdB l), 0⟩, runL wrdB l)
    else if digB c then
      if 9 < runL digB l then none else some (⟨4, [], decV (l.take (runL digB l))⟩, runL digB l)
    else if c = 39 then (txtL r).map fun x => (⟨5, x.1, 0⟩, x.2 + 1)
    else if c = 35 then
      if symL r = 0 then none else some (⟨6, r.take (symL r), 0⟩, symL r + 1)
    else if c = 58 ∧ r[0]? = some 61 then some (⟨7, [58, 61], 0⟩, 2)
    else if markL.contains c then some (⟨7, [c], 0⟩, 1)
    else if runL binB l = 0 then none else some (⟨3, l.take (min 2 (runL binB l)), 0⟩, min 2 (runL binB l))

def TokRes (l : List UInt8) (w : World) (e : Ending) (w' : World) : Prop :=
  ∃ t k, e = .returned (.tuple #[tokV t 0, .int .i64 (k : Nat)]) ∧ ((tokL l = some (t, k) ∧ 0 < k) ∨ (tokL l = none ∧ k = 0)) ∧ Mod Nil w w'

theorem tok_load {w : World} {g : Nat} {cs : Array Value} (hb : Blk w g 32 cs) (hs : cs.size = 4) : (loadVar 32 ⟨g, 0, none⟩).run Tryz.prog w = .ok (.agg cs) w :=
  run_loadVar_row w g 32 32 cs (0, 0) _ hb Tryz.underlying32 rfl (by rw [hs]; kernel_rfl)
def tok0 : Array Value := #[.int .i64 0, .string ⟨#[]⟩, .int .i64 0, .int .i64 0]
theorem tok_facts {w : World} {g : Nat} (hb : Blk w g 32 tok0) :
    w.cell? ⟨g, 0, none⟩ = some (.int .i64 0) ∧ w.cell? ⟨g, 1, none⟩ = some (.string ⟨#[]⟩) ∧ w.cell? ⟨g, 2, none⟩ = some (.int .i64 0) ∧ w.cell? ⟨g, 3, none⟩ = some (.int .i64 0) ∧
      w.frozen? ⟨g, 0, none⟩ = false ∧ w.frozen? ⟨g, 1, none⟩ = false ∧ w.frozen? ⟨g, 2, none⟩ = false ∧ w.frozen? ⟨g, 3, none⟩ = false :=
  ⟨hb.cell 0, hb.cell 1, hb.cell 2, hb.cell 3, hb.frozen 0, hb.frozen 1, hb.frozen 2, hb.frozen 3⟩
/-- A token stored whole. -/
def tokSet (w : World) (g : Nat) (t : Tok) (at_ : Nat) : World := (((w.setCell ⟨g, 0, none⟩ (.int .i64 t.kind)).setCell ⟨g, 1, none⟩ (.string (str t.text))).setCell ⟨g, 2, none⟩ (.int .i64 t.n)).setCell ⟨g, 3, none⟩ (.int .i64 at_)
theorem tokSet_blk {w : World} {g : Nat} {cs : Array Value} (hb : Blk w g 32 cs) (hs : cs.size = 4) (t : Tok) (at_ : Nat) : Blk (tokSet w g t at_) g 32 #[.int .i64 t.kind, .string (str t.text), .int .i64 t.n, .int .i64 at_] := by
  have h := (((hb.set_ 0 (.int .i64 t.kind)).set_ 1 (.string (str t.text))).set_ 2 (.int .i64 t.n)).set_ 3 (.int .i64 at_)
  rcases cs with ⟨_ | ⟨a, _ | ⟨b, _ | ⟨c, _ | ⟨d, _ | ⟨e, r⟩⟩⟩⟩⟩⟩ <;> simp at hs
  unfold tokSet
  simpa using h
theorem tokSet_mod {F : Nat → Prop} {w0 w : World} {g : Nat} (hm : Mod F w0 w) (hg : F g ∨ w0.heap.size ≤ g) (t : Tok) (at_ : Nat) : Mod F w0 (tokSet w g t at_) := (((hm.set hg _).set hg _).set hg _).set hg _
theorem tok_end {l : List UInt8} {w w3 : World} {a : Act} (hb : Blk w3 w.heap.size 32 tok0) (hm : Mod Nil w w3) (t : Tok) (k : Nat) (hc : (tokL l = some (t, k) ∧ 0 < k) ∨ (tokL l = none ∧ k = 0))
    (hp : a.tmps.getD 2 undef = .pointer (some ⟨w.heap.size, 0, none⟩)) (h3 : a.tmps.getD 3 undef = .int .i64 (k : Nat)) (hd : a.defers = []) :
    bodyPost Tryz.prog Tryz.f62 (fun e w' => TokRes l w e w') .ret a (tokSet w3 w.heap.size t 0) := by
  refine bodyPost_ret (v := .tuple #[tokV t 0, .int .i64 (k : Nat)]) ?_ hd ⟨t, k, rfl, hc, tokSet_mod hm (.inr (Nat.le_refl _)) t 0⟩
  rw [results_cell_tmp rfl, hp]
  have := tok_load (tokSet_blk hb rfl t 0) rfl
  simp [asAddr, Result.andThen, this, h3, tokV]

theorem decFrom_all : ∀ (l : List UInt8) (a : Nat), l.all digB = true → Lib.decFrom a l = some (l.foldl (fun a c => a * 10 + (c.toNat - 48)) a)
  | [], a, _ => rfl
  | c :: r, a, h => by
    rw [List.all_cons, Bool.and_eq_true] at h
    have hd : Lib.digitVal c = some (c.toNat - 48) := by
      have := h.1
      unfold digB at this
      simp only [Bool.and_eq_true, decide_eq_true_eq] at this
      unfold Lib.digitVal
      rw [if_pos this]
    rw [Lib.decFrom, hd, List.foldl_cons]
    exact decFrom_all r _ h.2
theorem atoi_digits {l : List UInt8} (h0 : 0 < l.length) (h : l.all digB = true) : Lib.atoi l = some (decV l : Int) := by
  cases l with
  | nil => simp at h0
  | cons c r =>
    have hc : 48 ≤ c.toNat ∧ c.toNat ≤ 57 := by
      rw [List.all_cons, Bool.and_eq_true] at h
      have := h.1
      unfold digB at this
      simpa only [Bool.and_eq_true, decide_eq_true_eq] using this
    have h1 : (c == 45) = false := by
      simp
      rintro rfl
      simp at hc
    have h2 : (c == 43) = false := by
      simp
      rintro rfl
      simp at hc
    rw [Lib.atoi, h1, h2]
    simp only [Bool.false_eq_true, if_false]
    unfold Lib.decNat
    rw [List.isEmpty_cons]
    simp only [Bool.false_eq_true, if_false]
    rw [decFrom_all _ _ h]
    rfl
theorem u8_eqb (c d : UInt8) : ((c.toNat : Int) == (d.toNat : Int)) = (c == d) := by
  by_cases h : c = d
  · subst h
    simp
  · rw [ne_of_u8 h]
    simp [h]

set_option maxHeartbeats 1600000 in
set_option maxRecDepth 100000 in
theorem scToken_any (l : List UInt8) (hl : l.length ≤ 5000) (h0 : 1 ≤ l.length) (w : World) : Calls Tryz.prog 62 #[.string (str l)] w fun e w' => TokRes l w e w' := by
  have hsz := str_size l
  obtain ⟨c, r, hcr⟩ : ∃ c r, l = c :: r := by
    cases l with
    | nil => simp at h0
    | cons c r => exact ⟨c, r, rfl⟩
  have hc : l[0]? = some c := by rw [hcr]; rfl
  have hg := str_getE hc (by omega)
  have HW := Lib.hid (fun w => scWord_any l (by omega) w)
  have HCR := Lib.hid hcr
  clear hcr hc
  obtain ⟨n, hn⟩ : ∃ n, n = wrdL l := ⟨_, rfl⟩
  have hwl : n ≤ l.length := by rw [hn]; exact wrdL_le l
  rw [← hn] at HW
  have he := str_take l n
  have he1 := str_take l (n + 1)
  have HN := Lib.hid hn
  clear hn
  go_enter Tryz.func62, Tryz.ntmps62
  go_wp2_with fail
  refine (HW.out _).mono ?_
  rintro e w2 ⟨rfl, rfl⟩
  by_cases hw : n = 0
  · have hlet : letB c = false := by
      rcases hb : letB c with _ | _
      · rfl
      · have h1 := HN.out
        rw [HCR.out, wrdL, hb, hw] at h1
        simp [runL, let_wrd hb] at h1
    have HLET := Lib.hid hlet
    have HTOK := Lib.hid (show tokL l = (if digB c then
      if 9 < runL digB l then none else some (⟨4, [], decV (l.take (runL digB l))⟩, runL digB l)
    else if c = 39 then (txtL r).map fun x => (⟨5, x.1, 0⟩, x.2 + 1)
    else if c = 35 then
      if symL r = 0 then none else some (⟨6, r.take (symL r), 0⟩, symL r + 1)
    else if c = 58 ∧ r[0]? = some 61 then some (⟨7, [58, 61], 0⟩, 2)
    else if markL.contains c then some (⟨7, [c], 0⟩, 1)
    else if runL binB l = 0 then none else some (⟨3, l.take (min 2 (runL binB l)), 0⟩, min 2 (runL binB l))) by rw [HCR.out, tokL, hlet]; rfl)
    subst hw
    clear hlet he he1 hwl
    have hb : Blk (w.alloc (.cells #[.int .i64 0, .string ⟨#[]⟩, .int .i64 0, .int .i64 0] 32)) w.heap.size 32 tok0 := Blk.new w _ _
    have HM0 := Lib.hid ((Mod.refl Nil w).alloc (.cells #[.int .i64 0, .string ⟨#[]⟩, .int .i64 0, .int .i64 0] 32))
    have HB0 := Lib.hid hb
    clear hb
    go_wp2_with fail
    generalize hW : World.alloc w (.cells #[.int .i64 0, .string ⟨#[]⟩, .int .i64 0, .int .i64 0] 32) = W at HM0 HB0 ⊢
    clear hW
    refine (digit_any c _).mono ?_
    rintro e w3 ⟨rfl, rfl⟩
    rcases hd : digB c with _ | _
    · rw [hd] at HTOK
      clear hd
      have hrl : r.length ≤ 5000 := by have := HCR.out; rw [this] at hl; simp at hl; omega
      have hlr : l.length = r.length + 1 := by rw [HCR.out]; simp
      by_cases h39 : c = 39
      · have HX := Lib.hid (show tokL l = (txtL r).map fun x => (⟨5, x.1, 0⟩, x.2 + 1) by rw [HTOK.out, if_pos h39]; rfl)
        have HT := Lib.hid (scText_any l hl h0 W)
        subst h39
        go_wp2_with fail
        refine HT.out.mono ?_
        rintro e w4 ⟨rfl, hm⟩
        have hb : Blk w4 w.heap.size 32 tok0 := HB0.out.keep hm id
        obtain ⟨hk0, hk1, hk2, hk3, hf0, hf1, hf2, hf3⟩ := tok_facts hb
        have HB := Lib.hid hb
        have HM := Lib.hid (HM0.out.trans hm)
        clear hb hm
        go_wp2_with fail
        try simp only [Exit.inBlock, Exit.then]
        refine tok_end HB.out HM.out ⟨5, (txtR l).1, 0⟩ (txtR l).2 ?_ rfl rfl rfl
        rw [HX.out]
        unfold txtR
        rw [HCR.out, List.drop_succ_cons, List.drop_zero]
        rcases txtL r with _ | ⟨t, k⟩
        · exact .inr ⟨rfl, rfl⟩
        · exact .inl ⟨rfl, by simp⟩
      · have hne : ((c.toNat : Int) == 39) = false := ne_of_u8 h39
        by_cases h35 : c = 35
        · have HX := Lib.hid (show tokL l = if symL r = 0 then none else some (⟨6, r.take (symL r), 0⟩, symL r + 1) by rw [HTOK.out, if_neg h39, if_pos h35]; rfl)
          have HT := Lib.hid (scSymbol_any r hrl W)
          have he : (str l).extract 1 (r.length + 1) = str r := by rw [str_extract, HCR.out]; simp
          have hsl : symL r ≤ r.length := symTo_le r r.length
          obtain ⟨k, hk⟩ : ∃ k, k = symL r := ⟨_, rfl⟩
          rw [← hk] at HX HT hsl
          have he2 : (str l).extract 1 (k + 1) = str (r.take k) := by rw [str_extract, HCR.out]; simp
          clear hk h39
          subst h35
          go_wp2_with fail
          refine HT.out.mono ?_
          rintro e w4 ⟨rfl, hm⟩
          have hb : Blk w4 w.heap.size 32 tok0 := HB0.out.keep hm id
          obtain ⟨hk0, hk1, hk2, hk3, hf0, hf1, hf2, hf3⟩ := tok_facts hb
          have HB := Lib.hid hb
          have HM := Lib.hid (HM0.out.trans hm)
          clear hb hm
          by_cases hk0 : k = 0
          · have HY := Lib.hid (show tokL l = none by rw [HX.out, if_pos hk0])
            subst hk0
            go_wp2_with fail
            try simp only [Exit.inBlock, Exit.then]
            exact tok_end HB.out HM.out ⟨0, [], 0⟩ 0 (.inr ⟨HY.out, rfl⟩) rfl rfl rfl
          · have HY := Lib.hid (show tokL l = some (⟨6, r.take k, 0⟩, k + 1) by rw [HX.out, if_neg hk0])
            have hk0' : ((k : Int) == 0) = false := by simp [hk0]
            clear hk0
            go_wp2_with fail
            try simp only [Exit.inBlock, Exit.then]
            exact tok_end HB.out HM.out ⟨6, r.take k, 0⟩ (k + 1) (.inl ⟨HY.out, by omega⟩) rfl rfl rfl
        · have hne2 : ((c.toNat : Int) == 35) = false := ne_of_u8 h35
          have hpre : Lib.hasPrefix l [58, 61] = decide (c = 58 ∧ r[0]? = some 61) := by
            rw [HCR.out]
            unfold Lib.hasPrefix
            rw [Bool.eq_iff_iff]
            cases r with
            | nil => simp [List.isPrefixOf]
            | cons d q =>
              simp [List.isPrefixOf]
              exact ⟨fun ⟨a, b⟩ => ⟨a.symm, b.symm⟩, fun ⟨a, b⟩ => ⟨a.symm, b.symm⟩⟩
          have HPRE := Lib.hid hpre
          have HTOK2 := Lib.hid (show tokL l = if c = 58 ∧ r[0]? = some 61 then some (⟨7, [58, 61], 0⟩, 2)
            else if markL.contains c then some (⟨7, [c], 0⟩, 1)
            else if runL binB l = 0 then none else some (⟨3, l.take (min 2 (runL binB l)), 0⟩, min 2 (runL binB l)) by rw [HTOK.out, if_neg h39, if_neg h35]; rfl)
          clear hpre h39 h35
          obtain ⟨hk0, hk1, hk2, hk3, hf0, hf1, hf2, hf3⟩ := tok_facts HB0.out
          have HB := HB0
          have HM := HM0
          go_wp2_with fail
          refine (Tryz.strings_HasPrefix (str l) (str [58, 61]) _).mono ?_
          rintro e w4 ⟨rfl, rfl⟩
          rw [show Lib.hasPrefix (str l).data.toList (str [58, 61]).data.toList = decide (c = 58 ∧ r[0]? = some 61) from HPRE.out]
          by_cases hme : c = 58 ∧ r[0]? = some 61
          · have HX := Lib.hid (show tokL l = some (⟨7, [58, 61], 0⟩, 2) by rw [HTOK2.out, if_pos hme])
            rw [show decide (c = 58 ∧ r[0]? = some 61) = true by simpa using hme]
            clear hme
            go_wp2_with fail
            try simp only [Exit.inBlock, Exit.then]
            exact tok_end HB.out HM.out ⟨7, [58, 61], 0⟩ 2 (.inl ⟨HX.out, by omega⟩) rfl rfl rfl
          · rw [show decide (c = 58 ∧ r[0]? = some 61) = false by simpa using hme]
            have HTOK3 := Lib.hid (show tokL l = if markL.contains c then some (⟨7, [c], 0⟩, 1)
              else if runL binB l = 0 then none else some (⟨3, l.take (min 2 (runL binB l)), 0⟩, min 2 (runL binB l)) by rw [HTOK2.out, if_neg hme])
            have hix : (0 ≤ Lib.indexByte (str markL).data.toList c) ↔ markL.contains c = true := indexByte_pos markL c
            clear hme
            rcases hmk : markL.contains c with _ | _
            · rw [hmk] at hix
              have hlt : ¬ (0 ≤ Lib.indexByte (str markL).data.toList c) := fun h => by cases hix.1 h
              have HTOK4 := Lib.hid (show tokL l = if runL binB l = 0 then none else some (⟨3, l.take (min 2 (runL binB l)), 0⟩, min 2 (runL binB l)) by rw [HTOK3.out, hmk]; rfl)
              clear hmk hix
              go_wp2_with fail
              refine (Tryz.strings_IndexByte (str markL) _ _).mono ?_
              rw [u8_back]
              rintro e w4 ⟨rfl, rfl⟩
              obtain ⟨ix, hix⟩ : ∃ ix, ix = Lib.indexByte (str markL).data.toList c := ⟨_, rfl⟩
              rw [← hix] at hlt ⊢
              clear hix
              have HBN := Lib.hid (fun w => scBin_any l (by omega) w)
              obtain ⟨k, hk⟩ : ∃ k, k = min 2 (runL binB l) := ⟨_, rfl⟩
              rw [← hk] at HBN HTOK4
              have hkl : k ≤ l.length := by have := runL_le binB l; omega
              have he := str_take l k
              have HKK := Lib.hid hk
              clear hk
              go_wp2_with fail
              refine (HBN.out _).mono ?_
              rintro e w4 ⟨rfl, rfl⟩
              go_wp2_with fail
              try simp only [Exit.inBlock, Exit.then]
              refine tok_end HB.out HM.out ⟨3, l.take k, 0⟩ k ?_ rfl rfl rfl
              have h1 := HKK.out
              rw [HTOK4.out]
              by_cases h0 : runL binB l = 0
              · exact .inr ⟨if_pos h0, by omega⟩
              · exact .inl ⟨if_neg h0, by omega⟩
            · rw [hmk] at hix
              have hlt : 0 ≤ Lib.indexByte (str markL).data.toList c := hix.2 rfl
              have HX := Lib.hid (show tokL l = some (⟨7, [c], 0⟩, 1) by rw [HTOK3.out, hmk]; rfl)
              clear hmk hix
              go_wp2_with fail
              refine (Tryz.strings_IndexByte (str markL) _ _).mono ?_
              rw [u8_back]
              rintro e w4 ⟨rfl, rfl⟩
              obtain ⟨ix, hix⟩ : ∃ ix, ix = Lib.indexByte (str markL).data.toList c := ⟨_, rfl⟩
              rw [← hix] at hlt ⊢
              clear hix
              have he : (str l).extract 0 1 = str [c] := by rw [str_extract, HCR.out]; simp
              go_wp2_with fail
              try simp only [Exit.inBlock, Exit.then]
              exact tok_end HB.out HM.out ⟨7, [c], 0⟩ 1 (.inl ⟨HX.out, by omega⟩) rfl rfl rfl
    · rw [hd] at HTOK
      have hpos : 0 < runL digB l := by rw [HCR.out, runL, if_pos hd]; omega
      have hle := runL_le digB l
      have hall := runL_take digB l _ (Nat.le_refl (runL digB l))
      have HRUN := Lib.hid (run_any 110 (.inr (.inl rfl)) digB digit_any l (by omega) W)
      unfold fnv at HRUN
      obtain ⟨k, hk⟩ : ∃ k, k = runL digB l := ⟨_, rfl⟩
      rw [← hk] at HRUN HTOK hpos hle hall
      have hlen : (l.take k).length = k := by rw [List.length_take]; omega
      have he := str_take l k
      have HX := Lib.hid (show tokL l = if 9 < k then none else some (⟨4, [], decV (l.take k)⟩, k) from HTOK.out)
      have HAT := Lib.hid (atoi_digits (by rw [hlen]; exact hpos) hall)
      clear hk hd hall
      obtain ⟨hk0, hk1, hk2, hk3, hf0, hf1, hf2, hf3⟩ := tok_facts HB0.out
      have HB := HB0
      have HM := HM0
      go_wp2_with fail
      refine HRUN.out.mono ?_
      rintro e w4 ⟨rfl, rfl⟩
      by_cases h9 : 9 < k
      · have HY := Lib.hid (show tokL l = none by rw [HX.out, if_pos h9])
        go_wp2_with fail
        try simp only [Exit.inBlock, Exit.then]
        exact tok_end HB.out HM.out ⟨0, [], 0⟩ 0 (.inr ⟨HY.out, rfl⟩) rfl rfl rfl
      · have HY := Lib.hid (show tokL l = some (⟨4, [], decV (l.take k)⟩, k) by rw [HX.out, if_neg h9])
        clear hk0 hk1 hk2 hk3 hf0 hf1 hf2 hf3
        go_wp2_with fail
        refine (Tryz.strconv_Atoi (str (l.take k)) (decV (l.take k)) (by rw [str_size, hlen]; omega) HAT.out _).mono ?_
        rintro e w5 ⟨rfl, t, rfl⟩
        have hm : Mod Nil W (Lib.bytesWorld W 5 t) := (Mod.refl _ _).bytes _ _
        generalize Lib.bytesWorld W 5 t = w4 at hm ⊢
        clear HB HM
        have hb : Blk w4 w.heap.size 32 tok0 := HB0.out.keep hm id
        obtain ⟨hk0, hk1, hk2, hk3, hf0, hf1, hf2, hf3⟩ := tok_facts hb
        have HB := Lib.hid hb
        have HM := Lib.hid (HM0.out.trans hm)
        clear hb hm
        go_wp2_with fail
        try simp only [Exit.inBlock, Exit.then]
        exact tok_end HB.out HM.out ⟨4, [], decV (l.take k)⟩ k (.inl ⟨HY.out, hpos⟩) rfl rfl rfl
  · have hw' : 0 < n := by omega
    have HL : letB c = true ∧ n = runL wrdB l := by
      obtain ⟨h1, d, q, h2, h3⟩ := wrdL_run (d := l) (by rw [← HN.out]; exact hw')
      rw [HCR.out] at h2
      injection h2 with h2 _
      exact ⟨by rw [h2]; exact h3, by rw [HN.out]; exact h1⟩
    have HIS := Lib.hid (show nmIs (l.take n) = decide (n ≤ 40) by
      have h1 : (l.take n).all wrdB = true := runL_take wrdB l n (by rw [HL.2]; exact Nat.le_refl _)
      have h2 : (l.take n).length = n := by rw [List.length_take]; omega
      unfold nmIs
      rw [h1, h2]
      obtain ⟨m, rfl⟩ : ∃ m, n = m + 1 := ⟨n - 1, by omega⟩
      rw [HCR.out, List.take_succ_cons]
      simp [HL.1])
    have HTOK := Lib.hid (show tokL l = if 40 < n then none else if kwB l n then some (⟨2, l.take (n + 1), 0⟩, n + 1) else some (⟨1, l.take n, 0⟩, n) by
      rw [HL.2]
      obtain ⟨h1, _⟩ := HL
      have h2 := HCR.out
      rw [h2, tokL, if_pos h1])
    clear hw HL
    go_wp2_with fail
    refine (nmIs_any _ (by rw [List.length_take]; omega) _).mono ?_
    rintro e w3 ⟨rfl, hm⟩
    have hb : Blk w3 w.heap.size 32 tok0 := (Blk.new w _ _).keep hm id
    obtain ⟨hk0, hk1, hk2, hk3, hf0, hf1, hf2, hf3⟩ := tok_facts hb
    have HB := Lib.hid hb
    have HM := Lib.hid (((Mod.refl Nil w).alloc _).trans hm)
    clear hb hm
    by_cases h40 : n ≤ 40
    · have hi : nmIs (l.take n) = true := by rw [HIS.out]; simp [h40]
      rw [hi]
      clear hi
      have HKW := Lib.hid (scKeyword_any l n (by omega) hwl w3)
      rcases hk : kwB l n with _ | _
      · rw [hk] at HKW
        have HX := Lib.hid (show tokL l = some (⟨1, l.take n, 0⟩, n) by rw [HTOK.out, if_neg (by omega), hk]; rfl)
        clear hk
        go_wp2_with fail
        refine HKW.out.mono ?_
        rintro e w4 ⟨rfl, rfl⟩
        go_wp2_with fail
        try simp only [Exit.inBlock, Exit.then]
        exact tok_end HB.out HM.out ⟨1, l.take n, 0⟩ n (.inl ⟨HX.out, hw'⟩) rfl rfl rfl
      · rw [hk] at HKW
        have HX := Lib.hid (show tokL l = some (⟨2, l.take (n + 1), 0⟩, n + 1) by rw [HTOK.out, if_neg (by omega), hk]; rfl)
        have hlt : n < l.length := by
          unfold kwB at hk
          simp at hk
          exact (List.getElem?_eq_some_iff.1 hk.1).1
        clear hk
        go_wp2_with fail
        refine HKW.out.mono ?_
        rintro e w4 ⟨rfl, rfl⟩
        go_wp2_with fail
        try simp only [Exit.inBlock, Exit.then]
        exact tok_end HB.out HM.out ⟨2, l.take (n + 1), 0⟩ (n + 1) (.inl ⟨HX.out, by omega⟩) rfl rfl rfl
    · have hi : nmIs (l.take n) = false := by rw [HIS.out]; simp [h40]
      rw [hi]
      clear hi
      have HX := Lib.hid (show tokL l = none by rw [HTOK.out, if_pos (by omega)])
      go_wp2_with fail
      try simp only [Exit.inBlock, Exit.then]
      exact tok_end HB.out HM.out ⟨0, [], 0⟩ 0 (.inr ⟨HX.out, rfl⟩) rfl rfl rfl
end Go.Proofs.YtpjpmlhnhcmacaaGreatDoor
