/- Parts of the proof of CodeRunsUpto, joined: NmB NmK NmL NmS RnW RnX RnK ScS. -/
import Derived.Test.YtefloadjolpgbaaDoorCodeRunsUptoj7
import Derived.Shelf.Strings.SlTrimAscii
import Derived.Deep.Draws
namespace Go.Proofs.YtefloadjolpgbaaDoor
open Go.RowKit

theorem dropWhile_nil {p : UInt8 → Bool} : ∀ {l : List UInt8}, l.dropWhile p = [] ↔ l.all p = true
  | [] => by simp
  | c :: r => by
    rw [List.dropWhile_cons, List.all_cons]
    cases hp : p c with
    | true => simpa using dropWhile_nil (p := p) (l := r)
    | false => simp
theorem dropWhile_head {p : UInt8 → Bool} : ∀ {l : List UInt8} {c : UInt8} {r : List UInt8}, l.dropWhile p = c :: r → p c = false
  | [], _, _, h => by simp at h
  | d :: l, c, r, h => by
    rw [List.dropWhile_cons] at h
    cases hp : p d with
    | true =>
      rw [hp] at h
      exact dropWhile_head (p := p) (l := l) (by simpa using h)
    | false =>
      rw [hp] at h
      simp at h
      rw [← h.1]
      exact hp
theorem trimS_nil (l cs : List UInt8) : Lib.trimS l cs = [] ↔ l.all (cs.contains ·) = true := by
  unfold Lib.trimS Lib.trimLeftS Lib.trimRightS
  rw [dropWhile_nil, List.all_reverse]
  constructor
  · intro h
    rcases hd : l.reverse.dropWhile (cs.contains ·) with _ | ⟨c, r⟩
    · have := dropWhile_nil.1 hd
      rwa [List.all_reverse] at this
    · have h1 := dropWhile_head hd
      rw [hd] at h
      simp only [List.all_cons, Bool.and_eq_true] at h
      have h2 := h.1
      rw [h1] at h2
      cases h2
  · intro h
    have h2 : l.reverse.dropWhile (cs.contains ·) = [] := dropWhile_nil.2 (by rw [List.all_reverse]; exact h)
    rw [h2]
    rfl

set_option maxHeartbeats 400000 in
set_option maxRecDepth 100000 in
theorem nmBin_any (l : List UInt8) (hl : l.length ≤ 4000000) (w : World) : Calls Tryd.prog 71 #[.string (str l)] w fun e w' => e = .returned (.bool (nmBin l)) ∧ Mod Nil w w' := by
  have hsz := str_size l
  have hT := Any.strings_Trim_laid Tryd.lays160 (by kernel_rfl) (str l) (str binL)
  have HT := Lib.hid hT
  have HL : nmBin l = ((decide (l.length = 1) || decide (l.length = 2)) && l.all binB) := rfl
  have HB := Lib.hid HL
  clear hT HL
  by_cases h12 : l.length = 1 ∨ l.length = 2
  · have hq : l.all binB = (Lib.trimS l binL).isEmpty := by
      rw [Bool.eq_iff_iff, List.isEmpty_iff, trimS_nil]
      rfl
    have HQ := Lib.hid hq
    clear hq
    have hd : (decide (l.length = 1) || decide (l.length = 2)) = true := by simpa using h12
    have HD := Lib.hid hd
    clear hd
    have hne : (str (Lib.trimS l binL)).toList.isEmpty = (Lib.trimS l binL).isEmpty := by rw [str_toList]
    rcases h12 with h1 | h1
    all_goals
      go_enter Tryd.func71, Tryd.ntmps71
      go_wp2_with fail
      refine (HT.out _ (by omega) (by decide) (ascii_of_all (by decide))).mono ?_
      rintro e w2 ⟨rfl, hm⟩
      have HM := Lib.hid hm
      clear hm
      go_wp2_with fail
      go_ret
      refine ⟨ret_bool ?_, Mod.of_below HM.out⟩
      rw [HB.out, HD.out, HQ.out]
      simp
      rfl
  · have h1 : l.length ≠ 1 := fun h => h12 (.inl h)
    have h2 : l.length ≠ 2 := fun h => h12 (.inr h)
    have hd : (decide (l.length = 1) || decide (l.length = 2)) = false := by simp [h1, h2]
    have HD := Lib.hid hd
    clear hd
    have hi1 : ((l.length : Int) == 1) = false := by simp; omega
    have hi2 : ((l.length : Int) == 2) = false := by simp; omega
    clear h12 h1 h2
    go_enter Tryd.func71, Tryd.ntmps71
    go_wp2_with fail
    go_ret
    exact ⟨ret_bool (by rw [HB.out, HD.out]; rfl), Mod.refl _ _⟩
end Go.Proofs.YtefloadjolpgbaaDoor

namespace Go.Proofs.YtefloadjolpgbaaDoor
open Go.RowKit

def sv (p : List UInt8) : Value := .string (str p)

theorem splitC_count : ∀ l : List UInt8, Lib.countByte l 58 = (splitC l).1.length
  | [] => rfl
  | c :: r => by
    have ih := splitC_count r
    unfold Lib.countByte at ih ⊢
    rw [splitC, List.count_cons, ih]
    by_cases hc : c = 58
    · simp [hc]
    · rw [if_neg hc, if_neg (by simpa using hc)]
      rcases (splitC r).1 with _ | ⟨p, ps⟩ <;> simp
theorem splitC_len (l : List UInt8) : (splitC l).1.length ≤ l.length := by
  rw [← splitC_count]
  exact List.count_le_length
theorem split_step : ∀ {rest : List UInt8}, (splitC rest).1 ≠ [] → ∃ p r', rest = p ++ 58 :: r' ∧ Lib.indexByte rest 58 = p.length ∧ splitC rest = (p :: (splitC r').1, (splitC r').2)
  | [], h => absurd rfl h
  | c :: r, h => by
    by_cases hc : c = 58
    · subst hc
      exact ⟨[], r, rfl, by simp [Lib.indexByte], by rw [splitC, if_pos rfl]⟩
    · have h2 : (splitC r).1 ≠ [] := by
        intro h0
        rw [splitC, if_neg hc, h0] at h
        exact h rfl
      obtain ⟨p, r', h3, h4, h5⟩ := split_step (rest := r) h2
      refine ⟨c :: p, r', by rw [h3]; rfl, ?_, by rw [splitC, if_neg hc, h5]⟩
      have hb : (c == 58) = false := by simp [hc]
      have hne : ((p.length : Int) == -1) = false := by simp
      rw [Lib.indexByte, hb, h4, hne]
      simp
theorem split_end {rest : List UInt8} (h : (splitC rest).1 = []) : (splitC rest).2 = rest := by
  have := splitC_join rest
  rw [h] at this
  simpa using this

/-- What the row holds when so many pieces are done. -/
def spCells (n : Nat) (done : List (List UInt8)) : Array Value := (done.map (fun p => sv (p ++ [58])) ++ List.replicate (n + 1 - done.length) (sv [])).toArray
theorem spCells_set {n : Nat} {done : List (List UInt8)} (h : done.length < n) (p : List UInt8) : (spCells n done).setIfInBounds done.length (sv (p ++ [58])) = spCells n (done ++ [p]) := by
  unfold spCells
  obtain ⟨m, hm⟩ : ∃ m, n + 1 - done.length = m + 1 := ⟨n - done.length, by omega⟩
  rw [hm, List.length_append, List.length_singleton, show n + 1 - (done.length + 1) = m by omega, List.replicate_succ]
  simp
theorem spCells_get {n : Nat} {done : List (List UInt8)} (h : done.length ≤ n) : (spCells n done)[done.length]? = some (sv []) := by
  unfold spCells
  obtain ⟨m, hm⟩ : ∃ m, n + 1 - done.length = m + 1 := ⟨n - done.length, by omega⟩
  rw [hm]
  simp
theorem spCells_end {n : Nat} {done : List (List UInt8)} (h : done.length = n) (r : List UInt8) : (spCells n done).setIfInBounds n (sv r) = (done.map (fun p => sv (p ++ [58])) ++ [sv r]).toArray := by
  unfold spCells
  rw [h, show n + 1 - n = 1 by omega]
  simp [h]

structure SpSt (w : World) (l : List UInt8) (done : List (List UInt8)) (rest : List UInt8) (wr : World) : Prop where
  eq : splitC l = (done ++ (splitC rest).1, (splitC rest).2)
  le : rest.length ≤ l.length
  blk : Blk wr w.heap.size 9 (spCells (splitC l).1.length done)
  mod : Mod Nil w wr

set_option maxHeartbeats 1600000 in
set_option maxRecDepth 100000 in
theorem gsplit_any (l : List UInt8) (hl : l.length ≤ 2000000) (w : World) :
    Calls Tryd.prog 77 #[.string (str l), .string ⟨#[58]⟩, .int .i64 1, .int .i64 (-1)] w fun e w' => e = .returned (.slice (some ⟨w.heap.size, 0, none⟩) ((splitC l).1.length + 1) ((splitC l).1.length + 1)) ∧
      Blk w' w.heap.size 9 ((splitC l).1.map (fun p => sv (p ++ [58])) ++ [sv (splitC l).2]).toArray ∧ Mod Nil w w' := by
  have hcnt := splitC_count l
  have hcl := splitC_len l
  obtain ⟨n, hn⟩ : ∃ n, n = (splitC l).1.length := ⟨_, rfl⟩
  obtain ⟨i0, hi, hz0, hz1, hz2⟩ := info_parts (show (Tryd.prog.info? 9).map (fun i => (i.zero, i.size, i.bytes)) = some (some (.string ⟨#[]⟩), 1, 16) by kernel_rfl)
  have hmk : (Instr.makeSlice 79 (.int .i64 ((n : Int) + 1)) (.int .i64 ((n : Int) + 1))).run Tryd.prog w = .ok (.slice (some ⟨w.heap.size, 0, none⟩) (n + 1) (n + 1)) (w.alloc (.cells (spCells n []) 9)) := by
    have := run_make (P := Tryd.prog) w 79 9 i0 (.string ⟨#[]⟩) Tryd.underlying79 hi hz0 .i64 .i64 ((n : Int) + 1) ((n : Int) + 1) (by omega) (by omega) (by rw [hz2]; omega) (by omega)
    rw [this, hz1, show ((n : Int) + 1).toNat = n + 1 by omega]
    have hmc : madeCells (Value.string ⟨#[]⟩).cells ((n + 1) * 1) = spCells n [] := by
      unfold spCells
      simp [madeCells, sv, Value.cells, str]
      apply Array.ext
      · simp
      · intro i h1 h2
        simp [Nat.mod_one]
    rw [hmc]
  rw [← hn]
  rw [← hn] at hcnt hcl
  have hst0 : SpSt w l [] l (w.alloc (.cells (spCells n []) 9)) := ⟨by simp, Nat.le_refl _, by rw [← hn]; exact Blk.new _ _ _, (Mod.refl _ _).alloc _⟩
  have HST0 := Lib.hid hst0
  have hsz := str_size l
  have HN := Lib.hid hn
  clear hst0 hi hz0 hz1 hz2 hn
  have hcb : Lib.countByte (str l).data.toList 58 = n := hcnt
  clear hcnt
  have hmin : min (n : Int) (l.length : Int) = n := by omega
  have hn5 : n ≤ 2000000 := by omega
  clear hcl
  go_enter Tryd.func77, Tryd.ntmps77
  go_wp2_with fail
  refine (Tryd.strings_Count_one (str l) 58 _).mono ?_
  rintro e w2 ⟨rfl, rfl⟩
  rw [hcb]
  go_wp2_with fail
  clear hmk hcb hmin
  go_loopw [0, 10] (fun s i wr => ∃ done rest, s = sv rest ∧ i = .int .i64 (done.length : Nat) ∧ SpSt w2 l done rest wr) (fun _ i _ => n - (intOf i).toNat)
  case atStart => exact ⟨[], l, rfl, rfl, HST0.out⟩
  case round =>
    obtain ⟨done, rest, rfl, rfl, hst⟩ := hrel
    have hdn : done.length + (splitC rest).1.length = n := by
      have := congrArg (fun x => x.1.length) hst.eq
      simp only [List.length_append] at this
      rw [HN.out, this]
    have hrl := hst.le
    have hsr := str_size rest
    have HST := Lib.hid hst
    clear hst hsz
    simp only [sv]
    by_cases hlt : done.length < n
    · have hne : (splitC rest).1 ≠ [] := by
        intro h0
        rw [h0] at hdn
        simp at hdn
        omega
      obtain ⟨p, r', hr, hix, hsp⟩ := split_step hne
      have hpl : rest.length = p.length + 1 + r'.length := by rw [hr]; simp; omega
      have he1 : (str rest).extract 0 (p.length + 1) = str (p ++ [58]) := by
        rw [str_extract, hr]
        simp [List.take_append, List.take_of_length_le]
      have he2 : (str rest).extract (p.length + 1) (p.length + 1 + r'.length) = str r' := by
        rw [str_extract, hr]
        rw [show p.length + 1 + r'.length - (p.length + 1) = r'.length by omega]
        simp [List.drop_append, List.drop_of_length_le]
      have HIX := Lib.hid (show Lib.indexByte (str rest).data.toList 58 = p.length from hix)
      have HNEXT := Lib.hid (show splitC l = ((done ++ [p]) ++ (splitC r').1, (splitC r').2) by rw [HST.out.eq, hsp]; simp)
      have HSET := Lib.hid (spCells_set (n := n) (done := done) hlt p)
      have hb := HST.out.blk
      rw [← HN.out] at hb
      have HBK := Lib.hid hb
      have hfz := hb.frozen done.length
      have hcl := (hb.cell done.length).trans (spCells_get (by omega))
      clear hb hr hix hsp hne hdn
      go_wp2_with fail
      refine (Tryd.strings_Index_one (str rest) 58 _).mono ?_
      rintro e w3 ⟨rfl, rfl⟩
      rw [HIX.out]
      go_wp2_with fail
      refine ⟨⟨done ++ [p], r', rfl, by simp, ⟨HNEXT.out, by omega, ?_, ?_⟩⟩, ?_⟩
      · rw [← HN.out, ← HSET.out]
        exact HBK.out.set_ _ _
      · exact HST.out.mod.set (.inr (Nat.le_refl _)) _
      · simp [intOf]
        omega
    · have hdone : done.length = n := by omega
      have h0 : (splitC rest).1 = [] := List.eq_nil_of_length_eq_zero (by omega)
      have h1 := split_end h0
      have HEQ := Lib.hid (show splitC l = (done, rest) by rw [HST.out.eq, h0, h1]; simp)
      have HSET := Lib.hid (spCells_end hdone rest)
      have hb := HST.out.blk
      rw [← HN.out] at hb
      have HBK := Lib.hid hb
      have hfz := hb.frozen n
      have hcl := (hb.cell done.length).trans (spCells_get (by omega))
      rw [hdone] at hcl
      clear hb h0 h1 hdn
      go_wp2_with fail
      go_ret
      refine ⟨rfl, ?_, HST.out.mod.set (.inr (Nat.le_refl _)) _⟩
      have := HBK.out.set_ n (sv rest)
      rw [HSET.out] at this
      rw [HEQ.out]
      exact this
end Go.Proofs.YtefloadjolpgbaaDoor

namespace Go.Proofs.YtefloadjolpgbaaDoor
open Go.RowKit

theorem trimSuffix_colon (p : List UInt8) : Lib.trimSuffix (p ++ [58]) [58] = p := by
  unfold Lib.trimSuffix Lib.hasSuffix
  rw [if_pos (by simp [List.isSuffixOf_iff_suffix])]
  simp

set_option maxHeartbeats 400000 in
set_option maxRecDepth 100000 in
theorem kwFn_any (p : List UInt8) (hp : p.length ≤ 2000000) (w : World) : Calls Tryd.prog 74 #[.string (str (p ++ [58]))] w fun e w' => e = .returned (.bool (!nmLower p)) ∧ Mod Nil w w' := by
  have hsz := str_size (p ++ [58])
  rw [List.length_append, List.length_singleton] at hsz
  go_enter Tryd.func74, Tryd.ntmps74
  go_wp2_with fail
  refine (Tryd.strings_TrimSuffix (str (p ++ [58])) (str [58]) _ (by omega)).mono ?_
  rintro e w2 ⟨rfl, rfl⟩
  rw [show (⟨(Lib.trimSuffix (str (p ++ [58])).data.toList (str [58]).data.toList).toArray⟩ : ByteArray) = str p from congrArg str (trimSuffix_colon p)]
  go_wp2_with fail
  refine (nmLower_any p (by omega) _).mono ?_
  rintro e w3 ⟨rfl, hm⟩
  have HM := Lib.hid hm
  clear hm
  go_wp2_with fail
  go_ret
  exact ⟨rfl, HM.out⟩

set_option maxHeartbeats 1600000 in
set_option maxRecDepth 100000 in
theorem sIndexFunc_any (A : Option Addr) (n cap : Nat) (ps : List (List UInt8)) (w : World) (hn : ps.length = n) (hbig : n ≤ 2000000) (hps : ∀ p ∈ ps, p.length ≤ 2000000)
    (hr : Rd All w A (ps.map fun p => sv (p ++ [58]))) :
    Calls Tryd.prog 78 #[.slice A n cap, fnv 74] w fun r w' => ∃ i : Int, r = .returned (.int .i64 i) ∧ (0 ≤ i ↔ ps.all nmLower = false) ∧ Mod Nil w w' := by
  have HR := Lib.hid hr
  have HPS := Lib.hid hps
  clear hr hps
  unfold fnv
  go_enter Tryd.func78, Tryd.ntmps78
  go_wp2_with fail
  go_loopw [8] (fun i wr => ∃ (k : Nat), k ≤ n ∧ i = .int .i64 k ∧ (∀ j p, j < k → ps[j]? = some p → nmLower p = true) ∧ Mod Nil w wr) (fun v _ => n - (intOf v).toNat)
  case atStart => exact ⟨0, Nat.zero_le _, rfl, fun j i hj => absurd hj (by omega), Mod.refl _ _⟩
  case round =>
    obtain ⟨k, hk, rfl, hno, hm⟩ := hrel
    have HNO := Lib.hid hno
    have HM := Lib.hid hm
    clear hno hm
    by_cases hlt : k < n
    · obtain ⟨p, hp⟩ : ∃ p, ps[k]? = some p := ⟨_, List.getElem?_eq_getElem (by omega)⟩
      have hcell : (ps.map fun p => sv (p ++ [58]))[k]? = some (sv (p ++ [58])) := by rw [List.getElem?_map, hp]; rfl
      obtain ⟨ad, rfl, _, hadl, hcell'⟩ := (HR.out.keep0 HM.out).at_ hcell
      have hpl := HPS.out p (List.mem_of_getElem? hp)
      have hbad : nmLower p = false → ps.all nmLower = false := fun h => by
        rw [List.all_eq_false]
        exact ⟨p, List.mem_of_getElem? hp, by simp [h]⟩
      have hgood : nmLower p = true → ∀ j q, j < k + 1 → ps[j]? = some q → nmLower q = true := fun h j q hj hq => by
        rcases Nat.lt_or_ge j k with h1 | h1
        · exact HNO.out j q h1 hq
        · have : j = k := by omega
          subst this
          rw [hp] at hq
          cases hq
          exact h
      have HB := Lib.hid hbad
      have HG := Lib.hid hgood
      simp only [sv] at hcell'
      clear hbad hgood hcell hp hn
      go_wp2_with fail
      refine (kwFn_any p hpl _).mono ?_
      rintro e w2 ⟨rfl, hm⟩
      have HM2 := Lib.hid (HM.out.trans hm)
      clear hm
      rcases hb : nmLower p with _ | _
      · have HX := Lib.hid (HB.out hb)
        clear hb
        go_wp2_with fail
        go_ret
        exact ⟨_, rfl, ⟨fun _ => HX.out, fun _ => by omega⟩, HM2.out⟩
      · have HX := Lib.hid (HG.out hb)
        clear hb
        go_wp2_with fail
        refine ⟨⟨k + 1, hlt, rfl, HX.out, HM2.out⟩, ?_⟩
        simp [intOf]
        omega
    · have HX := Lib.hid (show ps.all nmLower = true by
        rw [List.all_eq_true]
        intro p hp
        obtain ⟨j, hj⟩ := List.getElem?_of_mem hp
        have := (List.getElem?_eq_some_iff.1 hj).1
        exact HNO.out j p (by omega) hj)
      go_wp2_with fail
      go_ret
      exact ⟨_, rfl, by rw [HX.out]; simp, HM.out⟩

set_option maxHeartbeats 400000 in
set_option maxRecDepth 100000 in
theorem sContainsFunc_any (A : Option Addr) (n cap : Nat) (ps : List (List UInt8)) (w : World) (hn : ps.length = n) (hbig : n ≤ 2000000) (hps : ∀ p ∈ ps, p.length ≤ 2000000)
    (hr : Rd All w A (ps.map fun p => sv (p ++ [58]))) :
    Calls Tryd.prog 73 #[.slice A n cap, fnv 74] w fun r w' => r = .returned (.bool (!ps.all nmLower)) ∧ Mod Nil w w' := by
  have HI := Lib.hid (sIndexFunc_any A n cap ps w hn hbig hps hr)
  unfold fnv at HI ⊢
  clear hr hps
  go_enter Tryd.func73, Tryd.ntmps73
  go_wp2_with fail
  refine HI.out.mono ?_
  rintro e w2 ⟨i, rfl, hi, hm⟩
  have HM := Lib.hid hm
  have HIF := Lib.hid hi
  clear hm hi
  go_wp2_with fail
  go_ret
  refine ⟨ret_bool ?_, HM.out⟩
  have := HIF.out
  rw [Bool.eq_iff_iff]
  simpa using this

/-- The parts of a keyword selector. -/
def kwL (l : List UInt8) : List (List UInt8) := if nmKw l then (splitC l).1.map (· ++ [58]) else []

set_option maxHeartbeats 1600000 in
set_option maxRecDepth 100000 in
theorem nmSplit_any (l : List UInt8) (hl : l.length ≤ 2000000) (w : World) :
    Calls Tryd.prog 72 #[.string (str l), .string ⟨#[58]⟩] w fun e w' => e = .returned (.slice (some ⟨w.heap.size, 0, none⟩) ((splitC l).1.length + 1) ((splitC l).1.length + 1)) ∧
      Blk w' w.heap.size 9 ((splitC l).1.map (fun p => sv (p ++ [58])) ++ [sv (splitC l).2]).toArray ∧ Mod Nil w w' := by
  have HI := Lib.hid (gsplit_any l hl w)
  go_enter Tryd.func72, Tryd.ntmps72
  go_wp2_with fail
  refine HI.out.mono ?_
  rintro e w2 ⟨rfl, h1, h2⟩
  have H1 := Lib.hid h1
  have H2 := Lib.hid h2
  clear h1 h2
  go_wp2_with fail
  go_ret
  exact ⟨rfl, H1.out, H2.out⟩

theorem splitC_mem : ∀ {l p : List UInt8}, p ∈ (splitC l).1 → p.length ≤ l.length := by
  intro l p hp
  have h1 := splitC_join l
  have h2 : (p ++ [58]).length ≤ ((splitC l).1.flatMap (· ++ [58])).length := by
    clear h1
    generalize (splitC l).1 = ps at hp
    induction ps with
    | nil => cases hp
    | cons q qs ih =>
      simp only [List.flatMap_cons, List.length_append] at ih ⊢
      rcases List.mem_cons.1 hp with rfl | h
      · omega
      · have := ih h
        omega
  have h3 := congrArg List.length h1
  simp only [List.length_append] at h2 h3
  omega

set_option maxHeartbeats 1600000 in
set_option maxRecDepth 100000 in
theorem nmKeywords_any (l : List UInt8) (hl : l.length ≤ 2000000) (w : World) :
    Calls Tryd.prog 69 #[.string (str l)] w fun e w' => ∃ A c, e = .returned (.slice A (kwL l).length c) ∧ Rd (fun b => w.heap.size ≤ b) w' A ((kwL l).map sv) ∧ Mod Nil w w' := by
  have HI := Lib.hid (nmSplit_any l hl w)
  have hlen := splitC_len l
  have HMEM := Lib.hid (fun p hp => splitC_mem (l := l) (p := p) hp)
  have HK : kwL l = if nmKw l then (splitC l).1.map (· ++ [58]) else [] := rfl
  have HKW : nmKw l = ((splitC l).2.isEmpty && decide (1 ≤ (splitC l).1.length) && decide ((splitC l).1.length ≤ 10) && (splitC l).1.all nmLower) := rfl
  obtain ⟨ps, hps⟩ : ∃ ps, ps = (splitC l).1 := ⟨_, rfl⟩
  obtain ⟨rest, hrest⟩ : ∃ rest, rest = (splitC l).2 := ⟨_, rfl⟩
  rw [← hps, ← hrest] at HKW
  rw [← hps] at HK hlen HMEM
  rw [← hps, ← hrest] at HI
  obtain ⟨n, hn⟩ : ∃ n, n = ps.length := ⟨_, rfl⟩
  rw [← hn] at HI HKW hlen
  have HNP := Lib.hid hn
  have HK := Lib.hid HK
  have HKW := Lib.hid HKW
  have hno : nmKw l = false → kwL l = [] := fun h => by rw [HK.out, h]; rfl
  have HNO := Lib.hid hno
  clear hps hrest hn hno
  go_enter Tryd.func69, Tryd.ntmps69
  go_wp2_with fail
  refine HI.out.mono ?_
  rintro e w2 ⟨rfl, h1, h2⟩
  have hc := h1.cell n
  have hcl : w2.cell? ⟨w.heap.size, n, none⟩ = some (.string (str rest)) := by
    rw [hc, HNP.out]
    simp [sv]
  have HB := Lib.hid h1
  have HM := Lib.hid h2
  have hemp : (str rest).toList.isEmpty = rest.isEmpty := by rw [str_toList]
  clear h1 h2 hc
  have hnil : kwL l = [] → ∃ A c, Value.slice none 0 0 = .slice A (kwL l).length c ∧ Rd (fun b => w.heap.size ≤ b) w2 A ((kwL l).map sv) ∧ Mod Nil w w2 := fun h => by
    rw [h]
    exact ⟨none, 0, rfl, Rd.nil _ _ _, HM.out⟩
  have HNIL := Lib.hid hnil
  clear hnil
  by_cases h0 : n = 0
  · have HX := Lib.hid (HNIL.out (HNO.out (by rw [HKW.out, h0]; simp)))
    have hi : ((n : Int) + 1 < 2) := by omega
    go_wp2_with fail
    go_ret
    obtain ⟨A, c, h1, h2⟩ := HX.out
    exact ⟨A, c, congrArg Ending.returned h1, h2⟩
  · have hi : ¬ ((n : Int) + 1 < 2) := by omega
    by_cases h10 : 10 < n
    · have HX := Lib.hid (HNIL.out (HNO.out (by rw [HKW.out]; have : decide (n ≤ 10) = false := by simp; omega
                                                rw [this]; simp)))
      have hi2 : ((n : Int) + 1 > 11) := by omega
      go_wp2_with fail
      go_ret
      obtain ⟨A, c, h1, h2⟩ := HX.out
      exact ⟨A, c, congrArg Ending.returned h1, h2⟩
    · have hi2 : ¬ ((n : Int) + 1 > 11) := by omega
      rcases hre : rest.isEmpty with _ | _
      · have HX := Lib.hid (HNIL.out (HNO.out (by rw [HKW.out, hre]; rfl)))
        rw [hre] at hemp
        go_wp2_with fail
        go_ret
        obtain ⟨A, c, h1, h2⟩ := HX.out
        exact ⟨A, c, congrArg Ending.returned h1, h2⟩
      · rw [hre] at hemp
        have hrd : Rd (fun b => w.heap.size ≤ b) w2 (some ⟨w.heap.size, 0, none⟩) (ps.map fun p => sv (p ++ [58])) := by
          intro h
          refine ⟨_, rfl, Nat.le_refl _, HB.out.lt, fun j u hu => ?_⟩
          have hj := (List.getElem?_eq_some_iff.1 hu).1
          have : (⟨w.heap.size, 0, none⟩ : Addr).add j = ⟨w.heap.size, j, none⟩ := by unfold Addr.add; split <;> simp_all
          rw [this, HB.out.cell j, ← hu]
          simp at hj
          simp [List.getElem?_append, hj]
        have HRD := Lib.hid hrd
        have HC := Lib.hid (fun c => sContainsFunc_any (some ⟨w.heap.size, 0, none⟩) n c ps w2 HNP.out.symm (by omega) (fun p hp => Nat.le_trans (HMEM.out p hp) hl) (hrd.mono fun _ _ _ => trivial))
        clear hrd
        go_wp2_with fail
        refine (HC.out _).mono ?_
        rintro e w3 ⟨rfl, h3⟩
        have HM3 := Lib.hid h3
        clear h3
        rcases hall : ps.all nmLower with _ | _
        · have HX := Lib.hid (HNO.out (by rw [HKW.out, hall]; simp))
          go_wp2_with fail
          go_ret
          refine ⟨none, 0, ?_, ?_, HM.out.trans HM3.out⟩
          · rw [HX.out]; rfl
          · rw [HX.out]; exact Rd.nil _ _ _
        · have hkw : nmKw l = true := by
            rw [HKW.out, hre, hall]
            simp
            omega
          have HX := Lib.hid (show kwL l = ps.map (· ++ [58]) by rw [HK.out, hkw]; rfl)
          clear hkw
          go_wp2_with fail
          go_ret
          refine ⟨some ⟨w.heap.size, 0, none⟩, n + 1, ?_, ?_, HM.out.trans HM3.out⟩
          · rw [HX.out, List.length_map, ← HNP.out]
            rfl
          · rw [HX.out, List.map_map]
            exact HRD.out.keep0 HM3.out

set_option maxHeartbeats 1600000 in
set_option maxRecDepth 100000 in
theorem nmKind_any (l : List UInt8) (hl : l.length ≤ 2000000) (w : World) : Calls Tryd.prog 68 #[.string (str l)] w fun e w' => e = .returned (.int .i64 (nmKind l)) ∧ Mod Nil w w' := by
  have HL := Lib.hid (fun w => nmLower_any l (by omega) w)
  have HB := Lib.hid (fun w => nmBin_any l (by omega) w)
  have HK := Lib.hid (fun w => nmKeywords_any l hl w)
  have HD := Lib.hid (show nmKind l = if nmLower l then 1 else if nmBin l then 2 else if nmKw l then 3 else 0 from rfl)
  go_enter Tryd.func68, Tryd.ntmps68
  go_wp2_with fail
  refine (HL.out _).mono ?_
  rintro e w2 ⟨rfl, h2⟩
  have H2 := Lib.hid h2
  clear h2
  rcases h1 : nmLower l with _ | _
  · go_wp2_with fail
    refine (HB.out _).mono ?_
    rintro e w3 ⟨rfl, h3⟩
    have H3 := Lib.hid (H2.out.trans h3)
    clear h3
    rcases h2 : nmBin l with _ | _
    · go_wp2_with fail
      refine (HK.out _).mono ?_
      rintro e w4 ⟨A, c, rfl, _, h4⟩
      have H4 := Lib.hid (H3.out.trans h4)
      clear h4
      rcases h3 : nmKw l with _ | _
      · have hkl : (kwL l).length = 0 := by unfold kwL; rw [h3]; rfl
        rw [hkl]
        go_wp2_with fail
        go_ret
        exact ⟨ret_int (by rw [HD.out, h1, h2, h3]; rfl), H4.out⟩
      · have hkl : 0 < (kwL l).length := by
          unfold kwL
          rw [h3]
          unfold nmKw at h3
          simp at h3 ⊢
          have := h3.1.1.2
          omega
        generalize (kwL l).length = kn at hkl ⊢
        go_wp2_with fail
        go_ret
        exact ⟨ret_int (by rw [HD.out, h1, h2, h3]; rfl), H4.out⟩
    · go_wp2_with fail
      go_ret
      exact ⟨ret_int (by rw [HD.out, h1, h2]; rfl), H3.out⟩
  · go_wp2_with fail
    go_ret
    exact ⟨ret_int (by rw [HD.out, h1]; rfl), H2.out⟩
end Go.Proofs.YtefloadjolpgbaaDoor

namespace Go.Proofs.YtefloadjolpgbaaDoor
open Go.RowKit

/-- A selector of length k does not end within a word. -/
def wholeB (l : List UInt8) (k : Nat) : Bool := match l with
  | [] => true
  | c :: _ => !letB c || l[k - 1]? == some 58 || !(match l[k]? with | some d => wrdB d | none => false)
def candB (l : List UInt8) (k : Nat) : Bool := decide (0 < nmKind (l.take k)) && decide (k ≤ l.length) && wholeB l k
def symTo (l : List UInt8) : Nat → Nat
  | 0 => 0
  | k + 1 => if candB l (k + 1) then k + 1 else symTo l k
/-- The longest's length; 0: there is none. -/
def symL (l : List UInt8) : Nat := symTo l l.length

theorem symTo_cand (l : List UInt8) : ∀ n, symTo l n = 0 ∨ candB l (symTo l n) = true
  | 0 => .inl rfl
  | n + 1 => by
    rw [symTo]
    split
    · rename_i h
      exact .inr h
    · exact symTo_cand l n
theorem symTo_most (l : List UInt8) : ∀ n j, j ≤ n → candB l j = true → j ≤ symTo l n
  | 0, j, hj, _ => by omega
  | n + 1, j, hj, hc => by
    rw [symTo]
    split
    · exact hj
    · rename_i h
      rcases Nat.lt_or_ge j (n + 1) with h1 | h1
      · exact symTo_most l n j (by omega) hc
      · have : j = n + 1 := by omega
        subst this
        exact absurd hc h
theorem symTo_le (l : List UInt8) : ∀ n, symTo l n ≤ n
  | 0 => Nat.le_refl _
  | n + 1 => by
    rw [symTo]
    split
    · exact Nat.le_refl _
    · have := symTo_le l n
      omega
theorem cand_le {l : List UInt8} {k : Nat} (h : candB l k = true) : k ≤ l.length := by
  unfold candB at h
  simp only [Bool.and_eq_true, decide_eq_true_eq] at h
  exact h.1.2
theorem cand_kind {l : List UInt8} {k : Nat} (h : candB l k = true) : 0 < nmKind (l.take k) := by
  unfold candB at h
  simp only [Bool.and_eq_true, decide_eq_true_eq] at h
  exact h.1.1
theorem symL_of {l : List UInt8} {k : Nat} (h1 : k = 0 ∨ candB l k = true) (h2 : ∀ j, candB l j = true → j ≤ k) : symL l = k := by
  have a := symTo_cand l l.length
  have b := symTo_most l l.length
  unfold symL
  have h3 : symTo l l.length ≤ k := by
    rcases a with a | a
    · omega
    · exact h2 _ a
  have h4 : k ≤ symTo l l.length := by
    rcases h1 with h1 | h1
    · omega
    · exact b k (cand_le h1) h1
  omega

theorem kind_pos {m : List UInt8} (h : 0 < nmKind m) : nmLower m = true ∨ nmBin m = true ∨ nmKw m = true := by
  unfold nmKind at h
  split at h
  · rename_i h1; exact .inl h1
  · split at h
    · rename_i h1; exact .inr (.inl h1)
    · split at h
      · rename_i h1; exact .inr (.inr h1)
      · omega
theorem kind_of_lower {m : List UInt8} (h : nmLower m = true) : nmKind m = 1 := by unfold nmKind; rw [if_pos h]
theorem kind_of_bin {m : List UInt8} (h : nmBin m = true) : 0 < nmKind m := by rcases h1 : nmLower m with _ | _ <;> simp [nmKind, h1, h]
theorem kind_of_kw {m : List UInt8} (h : nmKw m = true) : 0 < nmKind m := by rcases h1 : nmLower m with _ | _ <;> rcases h2 : nmBin m with _ | _ <;> simp [nmKind, h1, h2, h]

theorem small_let {c : UInt8} (h : smallB c = true) : letB c = true := by unfold letB; rw [h]; rfl
theorem bin_let {c : UInt8} (h : binB c = true) : letB c = false := by
  have : ∀ c ∈ binL, letB c = false := by decide
  exact this c (by unfold binB at h; simpa using h)
theorem let_bin {c : UInt8} (h : letB c = true) : binB c = false := by
  rcases hb : binB c with _ | _
  · rfl
  · rw [bin_let hb] at h
    cases h
theorem let_wrd {c : UInt8} (h : letB c = true) : wrdB c = true := by unfold wrdB; rw [h]; rfl
theorem let_colon : letB 58 = false := by decide
theorem lower_head {m : List UInt8} (h : nmLower m = true) : ∃ c r, m = c :: r ∧ letB c = true := by
  unfold nmLower at h
  cases m with
  | nil => simp at h
  | cons c r =>
    simp only [Bool.and_eq_true] at h
    exact ⟨c, r, rfl, small_let h.2⟩
theorem bin_all {m : List UInt8} (h : nmBin m = true) : (m.length = 1 ∨ m.length = 2) ∧ m.all binB = true := by
  unfold nmBin at h
  simpa only [Bool.and_eq_true, Bool.or_eq_true, decide_eq_true_eq] using h
theorem kw_parts {m : List UInt8} (h : nmKw m = true) : (splitC m).2 = [] ∧ 1 ≤ (splitC m).1.length ∧ (splitC m).1.length ≤ 10 ∧ (∀ p ∈ (splitC m).1, nmLower p = true) := by
  unfold nmKw at h
  simp only [Bool.and_eq_true, decide_eq_true_eq, List.isEmpty_iff, List.all_eq_true] at h
  exact ⟨h.1.1.1, h.1.1.2, h.1.2, h.2⟩
theorem kw_of {m : List UInt8} (h1 : (splitC m).2 = []) (h2 : 1 ≤ (splitC m).1.length) (h3 : (splitC m).1.length ≤ 10) (h4 : ∀ p ∈ (splitC m).1, nmLower p = true) : nmKw m = true := by
  unfold nmKw
  simp only [Bool.and_eq_true, decide_eq_true_eq, List.isEmpty_iff, List.all_eq_true]
  exact ⟨⟨⟨h1, h2⟩, h3⟩, h4⟩
theorem kw_join {m : List UInt8} (h : nmKw m = true) : m = (splitC m).1.flatMap (· ++ [58]) := by
  have := splitC_join m
  rw [(kw_parts h).1, List.append_nil] at this
  exact this.symm
theorem kw_chars {m : List UInt8} (h : nmKw m = true) {c : UInt8} (hc : c ∈ m) : wrdB c = true ∨ c = 58 := by
  rw [kw_join h] at hc
  obtain ⟨p, hp, hcp⟩ := List.mem_flatMap.1 hc
  rcases List.mem_append.1 hcp with h1 | h1
  · exact .inl (List.all_eq_true.1 (nmLower_word ((kw_parts h).2.2.2 p hp)).1 c h1)
  · exact .inr (by simpa using h1)
theorem kw_end {m : List UInt8} (h : nmKw m = true) : ∃ a, m = a ++ [58] := by
  have h1 := kw_join h
  have h2 := (kw_parts h).2.1
  rcases List.eq_nil_or_concat (splitC m).1 with h0 | ⟨ps, p, h0⟩
  · rw [h0] at h2
    simp at h2
  · rw [h0] at h1
    rw [h1]
    exact ⟨ps.flatMap (· ++ [58]) ++ p, by simp⟩
theorem kw_prefix {a b : List UInt8} (h : nmKw (a ++ 58 :: b) = true) : nmKw (a ++ [58]) = true := by
  obtain ⟨h1, h2, h3, h4⟩ := kw_parts h
  have e1 := splitC_append a b
  have e2 : splitC (a ++ [58]) = ((splitC a).1 ++ [(splitC a).2], []) := by simpa [splitC] using splitC_append a []
  rw [e1] at h3 h4
  simp only [List.length_append, List.length_cons] at h3
  refine kw_of (by rw [e2]) (by rw [e2]; simp) (by rw [e2]; simp; omega) fun p hp => ?_
  rw [e2] at hp
  refine h4 p ?_
  simp only [List.mem_append, List.mem_cons] at hp ⊢
  rcases hp with hp | hp
  · exact .inl hp
  · exact .inr (.inl (by simpa using hp))
theorem kw_head {m : List UInt8} (h : nmKw m = true) : ∃ c r, m = c :: r ∧ letB c = true := by
  obtain ⟨_, h2, _, h4⟩ := kw_parts h
  obtain ⟨p, r', h5, _, h7⟩ := split_step (rest := m) (by intro h0; rw [h0] at h2; simp at h2)
  obtain ⟨c, r, rfl, hc⟩ := lower_head (h4 p (by rw [h7]; simp))
  exact ⟨c, r ++ 58 :: r', by rw [h5]; rfl, hc⟩
theorem kw_next {a b : List UInt8} (h : nmKw (a ++ 58 :: b) = true) (hb : b ≠ []) : ∃ c r, b = c :: r ∧ letB c = true := by
  obtain ⟨h1, _, _, h4⟩ := kw_parts h
  rw [splitC_append] at h1 h4
  have h0 : (splitC b).1 ≠ [] := by
    intro h0
    have := split_end h0
    simp only at h1
    rw [h1] at this
    exact hb this.symm
  obtain ⟨p, r', h5, _, h7⟩ := split_step h0
  obtain ⟨c, r, rfl, hc⟩ := lower_head (h4 p (by rw [h7]; simp))
  exact ⟨c, r ++ 58 :: r', by rw [h5]; rfl, hc⟩
/-- What holds a colon is of keywords, if anything. -/
theorem kind_colon {m : List UInt8} (hm : (58 : UInt8) ∈ m) (h : 0 < nmKind m) : nmKw m = true := by
  rcases kind_pos h with h | h | h
  · have := List.all_eq_true.1 (nmLower_word h).1 58 hm
    rw [wrdB_colon] at this
    cases this
  · have := List.all_eq_true.1 (bin_all h).2 58 hm
    rw [binB_colon] at this
    cases this
  · exact h

/-- A head that is neither letter nor of a binary selector. -/
theorem sym_none {l : List UInt8} (h1 : wrdL l = 0) (h2 : runL binB l = 0) : symL l = 0 := by
  refine symL_of (.inl rfl) fun j hj => ?_
  have hk := cand_kind hj
  rcases Nat.eq_zero_or_pos j with h0 | h0
  · omega
  exfalso
  cases l with
  | nil => simp [nmKind, nmLower, nmIs, nmBin, nmKw, splitC] at hk
  | cons c r =>
    have hc : letB c = false := by
      rcases hb : letB c with _ | _
      · rfl
      · rw [wrdL, hb] at h1
        simp [runL, let_wrd hb] at h1
    have hb : binB c = false := by
      rcases hb : binB c with _ | _
      · rfl
      · rw [runL, if_pos hb] at h2
        omega
    obtain ⟨j, rfl⟩ : ∃ i, j = i + 1 := ⟨j - 1, by omega⟩
    rw [List.take_succ_cons] at hk
    rcases kind_pos hk with h | h | h
    · obtain ⟨d, q, h3, h4⟩ := lower_head h
      injection h3 with h3 _
      rw [← h3, hc] at h4
      cases h4
    · have := List.all_eq_true.1 (bin_all h).2 c (by simp)
      rw [hb] at this
      cases this
    · obtain ⟨d, q, h3, h4⟩ := kw_head h
      injection h3 with h3 _
      rw [← h3, hc] at h4
      cases h4
theorem runL_take (p : UInt8 → Bool) : ∀ (l : List UInt8) (n : Nat), n ≤ runL p l → (l.take n).all p = true
  | [], n, _ => by simp
  | c :: r, 0, _ => by simp
  | c :: r, n + 1, h => by
    rw [runL] at h
    split at h
    · rename_i hc
      rw [List.take_succ_cons, List.all_cons, hc, Bool.true_and]
      exact runL_take p r n (by omega)
    · omega
theorem runL_ge (p : UInt8 → Bool) : ∀ (l : List UInt8) (n : Nat), n ≤ l.length → (l.take n).all p = true → n ≤ runL p l
  | [], n, h, _ => by
    simp at h
    rw [h]
    exact Nat.zero_le _
  | c :: r, 0, _, _ => Nat.zero_le _
  | c :: r, n + 1, h, h2 => by
    rw [List.take_succ_cons, List.all_cons, Bool.and_eq_true] at h2
    rw [runL, if_pos h2.1]
    have := runL_ge p r n (by simpa using h) h2.2
    omega
theorem sym_bin {l : List UInt8} (h : 0 < runL binB l) : symL l = min 2 (runL binB l) := by
  have hle := runL_le binB l
  cases l with
  | nil => simp [runL] at h
  | cons c r =>
    have hb : binB c = true := by
      rcases hb : binB c with _ | _
      · rw [runL, if_neg (by simp [hb])] at h
        omega
      · rfl
    have hc := bin_let hb
    refine symL_of (.inr ?_) fun j hj => ?_
    · unfold candB
      simp only [Bool.and_eq_true, decide_eq_true_eq]
      refine ⟨⟨kind_of_bin ?_, by omega⟩, ?_⟩
      · unfold nmBin
        simp only [Bool.and_eq_true, Bool.or_eq_true, decide_eq_true_eq]
        refine ⟨?_, runL_take _ _ _ (Nat.min_le_right _ _)⟩
        rw [List.length_take]
        omega
      · show (!letB c || _ || _) = true
        rw [hc]
        rfl
    · have hk := cand_kind hj
      have hjl := cand_le hj
      rcases Nat.eq_zero_or_pos j with h0 | h0
      · omega
      obtain ⟨j, rfl⟩ : ∃ i, j = i + 1 := ⟨j - 1, by omega⟩
      rcases kind_pos hk with h | h | h
      · rw [List.take_succ_cons] at h
        obtain ⟨d, q, h3, h4⟩ := lower_head h
        injection h3 with h3 _
        rw [← h3, hc] at h4
        cases h4
      · obtain ⟨h5, h6⟩ := bin_all h
        have := runL_ge binB (c :: r) (j + 1) hjl h6
        rw [List.length_take] at h5
        omega
      · rw [List.take_succ_cons] at h
        obtain ⟨d, q, h3, h4⟩ := kw_head h
        injection h3 with h3 _
        rw [← h3, hc] at h4
        cases h4

/-! ### the loop that looks for keywords -/
/-- Where the loop stands: at its beginning, or behind keywords. -/
def SymSt (l : List UInt8) (a best : Nat) : Prop := (a = 0 ∧ best = 0) ∨ (0 < a ∧ best = a ∧ a ≤ l.length ∧ nmKw (l.take a) = true)

theorem wrdL_run {d : List UInt8} (h : 0 < wrdL d) : wrdL d = runL wrdB d ∧ ∃ c r, d = c :: r ∧ letB c = true := by
  cases d with
  | nil => simp [wrdL] at h
  | cons c r =>
    rcases hc : letB c with _ | _
    · rw [wrdL, hc] at h
      simp at h
    · exact ⟨by rw [wrdL, hc]; rfl, c, r, rfl, hc⟩
theorem take_split (l : List UInt8) {a j : Nat} (h : a ≤ j) : l.take j = l.take a ++ (l.drop a).take (j - a) := by
  rw [← List.take_append_drop a (l.take j), List.take_take, Nat.min_eq_left h, List.drop_take]
theorem not_bin {l : List UInt8} {c : UInt8} {r : List UInt8} (hl : l = c :: r) (hc : letB c = true) (j : Nat) : nmBin (l.take j) = false := by
  rw [Bool.eq_false_iff]
  intro h
  obtain ⟨h1, h2⟩ := bin_all h
  subst hl
  cases j with
  | zero => simp at h1
  | succ j =>
    have := List.all_eq_true.1 h2 c (by simp)
    rw [let_bin hc] at this
    cases this
theorem sym_head {l : List UInt8} {a best : Nat} (h : SymSt l a best) (hn : 0 < wrdL (l.drop a)) : ∃ c r, l = c :: r ∧ letB c = true := by
  rcases h with ⟨rfl, _⟩ | ⟨h0, _, _, hk⟩
  · exact (wrdL_run hn).2
  · obtain ⟨c, r, h1, h2⟩ := kw_head hk
    cases l with
    | nil => simp at h1
    | cons d q =>
      obtain ⟨a, rfl⟩ : ∃ i, a = i + 1 := ⟨a - 1, by omega⟩
      rw [List.take_succ_cons] at h1
      injection h1 with h1 _
      exact ⟨d, q, rfl, by rw [h1]; exact h2⟩
theorem colon_mem {l : List UInt8} {a j : Nat} (hk : nmKw (l.take a) = true) (h : a ≤ j) : (58 : UInt8) ∈ l.take j := by
  obtain ⟨m, hm⟩ := kw_end hk
  rw [take_split l h, hm]
  simp
theorem not_lower {l : List UInt8} {a j : Nat} (hk : nmKw (l.take a) = true) (h : a ≤ j) : nmLower (l.take j) = false := by
  rw [Bool.eq_false_iff]
  intro hl
  have := List.all_eq_true.1 (nmLower_word hl).1 58 (colon_mem hk h)
  rw [wrdB_colon] at this
  cases this
/-- Within a word nothing ends with a colon. -/
theorem not_kw {l : List UInt8} {a j : Nat} (h : a < j) (hj : j ≤ a + runL wrdB (l.drop a)) (hjl : j ≤ l.length) : nmKw (l.take j) = false := by
  rw [Bool.eq_false_iff]
  intro hk
  obtain ⟨m, hm⟩ := kw_end hk
  have h1 := runL_take wrdB (l.drop a) (j - a) (by omega)
  rw [take_split l (Nat.le_of_lt h)] at hm
  have hne : (l.drop a).take (j - a) ≠ [] := by
    intro h0
    have := congrArg List.length h0
    rw [List.length_take, List.length_drop] at this
    simp at this
    omega
  obtain ⟨x, y, hxy⟩ := (List.eq_nil_or_concat ((l.drop a).take (j - a))).resolve_left hne
  rw [hxy] at hm h1
  have h2 : y = 58 := by
    have := congrArg List.getLast? hm
    simpa using this
  have h3 := List.all_eq_true.1 h1 y (by simp)
  rw [h2, wrdB_colon] at h3
  cases h3
theorem cand_kw {l : List UInt8} {a : Nat} (ha : 0 < a) (hal : a ≤ l.length) (hk : nmKw (l.take a) = true) : candB l a = true := by
  unfold candB
  simp only [Bool.and_eq_true, decide_eq_true_eq]
  refine ⟨⟨kind_of_kw hk, hal⟩, ?_⟩
  obtain ⟨m, hm⟩ := kw_end hk
  have h1 : l[a - 1]? = some 58 := by
    have h2 : (l.take a)[a - 1]? = some 58 := by
      have hl : m.length = a - 1 := by
        have := congrArg List.length hm
        rw [List.length_take] at this
        simp at this
        omega
      rw [hm, ← hl]
      simp
    rw [List.getElem?_take] at h2
    split at h2
    · exact h2
    · cases h2
  cases l with
  | nil => rfl
  | cons c r =>
    show (!letB c || _ || _) = true
    rw [h1]
    simp
theorem sym_exit {l : List UInt8} {a best : Nat} (h : SymSt l a best) (hb : runL binB l = 0) (hn : wrdL (l.drop a) = 0) : symL l = best := by
  rcases h with ⟨rfl, rfl⟩ | ⟨h0, rfl, hal, hk⟩
  · exact sym_none hn hb
  · refine symL_of (.inr (cand_kw h0 hal hk)) fun j hj => ?_
    rcases Nat.lt_or_ge best j with h1 | h1
    · exfalso
      have hk2 := kind_colon (colon_mem hk (Nat.le_of_lt h1)) (cand_kind hj)
      obtain ⟨m, hm⟩ := kw_end hk
      have hjl := cand_le hj
      rw [take_split l (Nat.le_of_lt h1), hm, List.append_assoc, List.singleton_append] at hk2
      have hne : (l.drop best).take (j - best) ≠ [] := by
        intro h0
        have := congrArg List.length h0
        rw [List.length_take, List.length_drop] at this
        simp at this
        omega
      obtain ⟨c, r, h3, h4⟩ := kw_next hk2 hne
      cases hd : l.drop best with
      | nil => rw [hd] at h3; simp at h3
      | cons d q =>
        rw [hd] at h3 hn
        obtain ⟨i, hi⟩ : ∃ i, j - best = i + 1 := ⟨j - best - 1, by omega⟩
        rw [hi, List.take_succ_cons] at h3
        injection h3 with h3 _
        rw [wrdL, h3, h4] at hn
        simp [runL, let_wrd h4] at hn
    · exact h1
/-- What is best behind one word more. -/
def symBest (l : List UInt8) (a n best : Nat) : Nat := if a = 0 ∧ nmKind (l.take n) = 1 then n else best
theorem kind_one {m : List UInt8} (h : nmKind m = 1) : nmLower m = true := by
  unfold nmKind at h
  split at h
  · assumption
  · split at h
    · omega
    · split at h <;> omega
theorem kind_three {m : List UInt8} (h : nmKind m = 3) : nmKw m = true := by
  unfold nmKind at h
  split at h
  · omega
  · split at h
    · omega
    · split at h
      · assumption
      · omega
theorem kw_three {m : List UInt8} (h : nmKw m = true) : nmKind m = 3 := by
  obtain ⟨a, ha⟩ := kw_end h
  have hm : (58 : UInt8) ∈ m := by rw [ha]; simp
  have h1 : nmLower m = false := by
    rw [Bool.eq_false_iff]
    intro hl
    have := List.all_eq_true.1 (nmLower_word hl).1 58 hm
    rw [wrdB_colon] at this
    cases this
  have h2 : nmBin m = false := by
    rw [Bool.eq_false_iff]
    intro hl
    have := List.all_eq_true.1 (bin_all hl).2 58 hm
    rw [binB_colon] at this
    cases this
  simp [nmKind, h1, h2, h]
/-- No selector goes on beyond this word: then the best is the longest. -/
theorem sym_last {l : List UInt8} {a best : Nat} (h : SymSt l a best) (hn : 0 < wrdL (l.drop a)) (hmore : ∀ j, a + wrdL (l.drop a) < j → j ≤ l.length → nmLower (l.take j) = false ∧ nmKw (l.take j) = false) :
    symL l = symBest l a (wrdL (l.drop a)) best := by
  obtain ⟨c, r, hl, hc⟩ := sym_head h hn
  obtain ⟨hr, _⟩ := wrdL_run hn
  obtain ⟨n, hN⟩ : ∃ n, n = wrdL (l.drop a) := ⟨_, rfl⟩
  rw [← hN] at hn hmore hr ⊢
  have hnl : a + n ≤ l.length ∨ l.length < a := by
    have := runL_le wrdB (l.drop a)
    rw [← hr, List.length_drop] at this
    omega
  have hal : a ≤ l.length := by
    rcases h with ⟨rfl, _⟩ | ⟨_, _, h, _⟩
    · omega
    · exact h
  have hno : ∀ j, a < j → candB l j = true → a = 0 ∧ j = n ∧ nmLower (l.take n) = true := by
    intro j h1 hj
    have hk := cand_kind hj
    have hjl := cand_le hj
    rcases Nat.lt_or_ge (a + n) j with h2 | h2
    · obtain ⟨h3, h4⟩ := hmore j h2 hjl
      exfalso
      rcases kind_pos hk with h | h | h
      · rw [h3] at h; cases h
      · rw [not_bin hl hc] at h; cases h
      · rw [h4] at h; cases h
    · rcases kind_pos hk with h3 | h3 | h3
      · rcases h with ⟨rfl, _⟩ | ⟨_, _, _, hkw⟩
        · rcases Nat.lt_or_ge j n with h4 | h4
          · exfalso
            unfold candB at hj
            simp only [Bool.and_eq_true] at hj
            have hw := hj.2
            rw [List.drop_zero] at hr
            have hjn : ∃ d, l[j]? = some d ∧ wrdB d = true := by
              have hlt : j < l.length := by omega
              exact ⟨_, List.getElem?_eq_getElem hlt, runL_all wrdB l j _ (by omega) (List.getElem?_eq_getElem hlt)⟩
            obtain ⟨d, hd1, hd2⟩ := hjn
            have hjm : l[j - 1]? ≠ some 58 := by
              intro h5
              have := runL_all wrdB l (j - 1) 58 (by omega) h5
              rw [wrdB_colon] at this
              cases this
            subst hl
            change (!letB c || _ || _) = true at hw
            rw [hc, hd1] at hw
            simp [hd2] at hw
            exact hjm hw
          · have : j = n := by omega
            subst this
            exact ⟨rfl, rfl, h3⟩
        · rw [not_lower hkw (Nat.le_of_lt h1)] at h3
          cases h3
      · rw [not_bin hl hc] at h3; cases h3
      · rw [not_kw h1 (by rw [← hr]; exact h2) hjl] at h3; cases h3
  unfold symBest
  split
  · rename_i hcond
    obtain ⟨rfl, hk1⟩ := hcond
    refine symL_of (.inr ?_) fun j hj => ?_
    · unfold candB
      simp only [Bool.and_eq_true, decide_eq_true_eq]
      refine ⟨⟨by omega, by omega⟩, ?_⟩
      have h5 : (match l[n]? with | some d => wrdB d | none => false) = false := by
        rcases hd : l[n]? with _ | d
        · rfl
        · rw [List.drop_zero] at hr
          exact runL_end wrdB l d (by rw [← hr]; exact hd)
      subst hl
      show (!letB c || _ || !_) = true
      rw [h5]
      simp
    · rcases Nat.eq_zero_or_pos j with h1 | h1
      · omega
      · have := (hno j h1 hj).2.1
        omega
  · rename_i hcond
    refine symL_of ?_ fun j hj => ?_
    · rcases h with ⟨_, rfl⟩ | ⟨h1, rfl, h2, h3⟩
      · exact .inl rfl
      · exact .inr (cand_kw h1 h2 h3)
    · rcases Nat.lt_or_ge a j with h1 | h1
      · obtain ⟨h2, h3, h4⟩ := hno j h1 hj
        exact absurd ⟨h2, kind_of_lower h4⟩ hcond
      · rcases h with ⟨h2, h3⟩ | ⟨_, h3, _, _⟩ <;> omega
theorem sym_open {l : List UInt8} {a best : Nat} (h : SymSt l a best) (hn : 0 < wrdL (l.drop a)) (hc : l[a + wrdL (l.drop a)]? ≠ some 58) : symL l = symBest l a (wrdL (l.drop a)) best := by
  refine sym_last h hn fun j h1 h2 => ?_
  obtain ⟨hr, _⟩ := wrdL_run hn
  obtain ⟨d, hd⟩ : ∃ d, l[a + wrdL (l.drop a)]? = some d := ⟨_, List.getElem?_eq_getElem (by omega)⟩
  have hw : wrdB d = false := runL_end wrdB (l.drop a) d (by rw [← hr, List.getElem?_drop]; exact hd)
  have hm : d ∈ l.take j := by
    refine List.mem_of_getElem? (i := a + wrdL (l.drop a)) ?_
    rw [List.getElem?_take, if_pos h1, hd]
  constructor
  · rw [Bool.eq_false_iff]
    intro hl
    have := List.all_eq_true.1 (nmLower_word hl).1 d hm
    rw [hw] at this
    cases this
  · rw [Bool.eq_false_iff]
    intro hk
    rcases kw_chars hk hm with h3 | h3
    · rw [hw] at h3
      cases h3
    · rw [hd, h3] at hc
      exact hc rfl
theorem take_colon {l : List UInt8} {k : Nat} (hc : l[k]? = some 58) : l.take (k + 1) = l.take k ++ [58] := by
  have hlt := (List.getElem?_eq_some_iff.1 hc).1
  rw [List.take_add_one, hc]
  rfl
theorem sym_shut {l : List UInt8} {a best : Nat} (h : SymSt l a best) (hn : 0 < wrdL (l.drop a)) (hc : l[a + wrdL (l.drop a)]? = some 58) (hk : nmKind (l.take (a + wrdL (l.drop a) + 1)) ≠ 3) : symL l = symBest l a (wrdL (l.drop a)) best := by
  refine sym_last h hn fun j h1 h2 => ?_
  have e1 := take_colon hc
  have e2 : l.take j = l.take (a + wrdL (l.drop a)) ++ 58 :: (l.drop (a + wrdL (l.drop a) + 1)).take (j - (a + wrdL (l.drop a) + 1)) := by
    rw [take_split l (show a + wrdL (l.drop a) + 1 ≤ j from h1), e1, List.append_assoc, List.singleton_append]
  constructor
  · rw [Bool.eq_false_iff]
    intro hl
    have := List.all_eq_true.1 (nmLower_word hl).1 58 (by rw [e2]; simp)
    rw [wrdB_colon] at this
    cases this
  · rw [Bool.eq_false_iff]
    intro hl
    rw [e2] at hl
    have := kw_prefix hl
    rw [← e1] at this
    exact hk (kw_three this)
theorem sym_next {l : List UInt8} {a : Nat} (hc : l[a + wrdL (l.drop a)]? = some 58) (hk : nmKind (l.take (a + wrdL (l.drop a) + 1)) = 3) : SymSt l (a + wrdL (l.drop a) + 1) (a + wrdL (l.drop a) + 1) :=
  .inr ⟨by omega, rfl, (List.getElem?_eq_some_iff.1 hc).1, kind_three hk⟩
end Go.Proofs.YtefloadjolpgbaaDoor

namespace Go.Proofs.YtefloadjolpgbaaDoor
open Go.RowKit

set_option maxHeartbeats 400000 in
set_option maxRecDepth 100000 in
theorem r6Small_any (c : UInt8) (w : World) : Calls Tryd.prog 38 #[.int .u8 c.toNat] w fun e w' => e = .returned (.bool (smallB c)) ∧ w = w' := by
  have h256 := u8_lt c
  go_enter Tryd.func38, Tryd.ntmps38
  go_wp2
  all_goals
    go_ret
    refine ⟨ret_bool ?_, rfl⟩
    rw [Bool.eq_iff_iff]
    simp [smallB]
    try omega
set_option maxHeartbeats 400000 in
set_option maxRecDepth 100000 in
theorem r6Letter_any (c : UInt8) (w : World) : Calls Tryd.prog 56 #[.int .u8 c.toNat] w fun e w' => e = .returned (.bool (letB c)) ∧ w = w' := by
  have h256 := u8_lt c
  have HL := Lib.hid (show letB c = (smallB c || largeB c) from rfl)
  go_enter Tryd.func56, Tryd.ntmps56
  go_wp2_with fail
  refine (r6Small_any c _).mono ?_
  rintro e w2 ⟨rfl, rfl⟩
  rcases hs : smallB c with _ | _
  · go_wp2_with fail
    all_goals
      go_ret
      refine ⟨ret_bool ?_, rfl⟩
      rw [HL.out, hs, Bool.eq_iff_iff]
      simp [largeB]
      try omega
  · go_wp2_with fail
    go_ret
    exact ⟨ret_bool (by rw [HL.out, hs]; rfl), rfl⟩

theorem wrdL_step {d : List UInt8} {k : Nat} {c : UInt8} (hk : k ≤ wrdL d) (hc : d[k]? = some c) (h : letB c = true ∨ 0 < k ∧ digB c = true) : k + 1 ≤ wrdL d := by
  have hw : wrdB c = true := by
    unfold wrdB
    rcases h with h | h
    · rw [h]; rfl
    · rw [h.2]; simp
  cases d with
  | nil => simp at hc
  | cons x r =>
    rcases hx : letB x with _ | _
    · exfalso
      have h0 : wrdL (x :: r) = 0 := by rw [wrdL, hx]; rfl
      have : k = 0 := by omega
      subst this
      simp at hc
      subst hc
      rw [hx] at h
      rcases h with h | h
      · cases h
      · omega
    · have h0 : wrdL (x :: r) = runL wrdB (x :: r) := by rw [wrdL, hx]; rfl
      rcases Nat.lt_or_eq_of_le hk with h1 | h1
      · exact h1
      · exfalso
        rw [h0] at h1
        have := runL_end wrdB (x :: r) c (by rw [← h1]; exact hc)
        rw [hw] at this
        cases this
theorem wrdL_stop {d : List UInt8} {k : Nat} {c : UInt8} (hk : k ≤ wrdL d) (hc : d[k]? = some c) (h : letB c = false) (h2 : k = 0 ∨ digB c = false) : wrdL d = k := by
  cases d with
  | nil => simp at hc
  | cons x r =>
    rcases Nat.lt_or_eq_of_le hk with h1 | h1
    · exfalso
      rcases hx : letB x with _ | _
      · have h0 : wrdL (x :: r) = 0 := by rw [wrdL, hx]; rfl
        omega
      · have h0 : wrdL (x :: r) = runL wrdB (x :: r) := by rw [wrdL, hx]; rfl
        rcases h2 with h2 | h2
        · subst h2
          simp at hc
          subst hc
          rw [hx] at h
          cases h
        · have := runL_all wrdB (x :: r) k c (by omega) hc
          unfold wrdB at this
          rw [h, h2] at this
          cases this
    · exact h1.symm

end Go.Proofs.YtefloadjolpgbaaDoor

namespace Go.Proofs.YtefloadjolpgbaaDoor
open Go.RowKit

theorem dig_cmp (c : UInt8) : digB c = !(decide ((c.toNat : Int) < 48) || decide (57 < (c.toNat : Int))) := by
  unfold digB
  rw [Bool.eq_iff_iff]
  simp
  omega

set_option maxHeartbeats 1600000 in
set_option maxRecDepth 100000 in
theorem r6Is_any (l : List UInt8) (hl : l.length ≤ 4000000) (w : World) : Calls Tryd.prog 37 #[.string (str l)] w fun e w' => e = .returned (.bool (nmIs l)) ∧ w = w' := by
  have hsz := str_size l
  rcases l with _ | ⟨c, r⟩
  · have hz : (str []).size = 0 := rfl
    clear hsz
    go_enter Tryd.func37, Tryd.ntmps37
    go_wp2_with fail
    go_ret
    exact ⟨rfl, rfl⟩
  · have hg := str_getE (l := c :: r) (k := 0) (c := c) rfl (by rw [hsz]; simp)
    have HIS := Lib.hid (show nmIs (c :: r) = (letB c && (c :: r).all wrdB && decide ((c :: r).length ≤ 40)) from rfl)
    have hpos : 1 ≤ (c :: r).length := by simp
    obtain ⟨l, hL⟩ : ∃ l, l = c :: r := ⟨_, rfl⟩
    rw [← hL] at hsz HIS hpos hl ⊢
    have hg : ∀ h, (str l)[0]'h = c := by subst hL; exact fun h => str_getE (l := c :: r) (k := 0) (c := c) rfl h
    clear hL
    by_cases h40 : l.length ≤ 40
    · go_enter Tryd.func37, Tryd.ntmps37
      go_wp2_with fail
      refine (r6Letter_any c _).mono ?_
      rintro e w2 ⟨rfl, rfl⟩
      rcases hlet : letB c with _ | _
      · have HX := Lib.hid (show nmIs l = false by rw [HIS.out, hlet]; rfl)
        go_wp2_with fail
        go_ret
        exact ⟨ret_bool (by rw [HX.out]), rfl⟩
      · have HX := Lib.hid (show nmIs l = l.all wrdB by rw [HIS.out, hlet]; simp [h40])
        clear hlet
        go_wp2_with fail
        go_loopw [3] (fun v wr => ∃ k : Nat, v = .int .i64 (k : Nat) ∧ k ≤ l.length ∧ (∀ i d, i < k → l[i]? = some d → wrdB d = true) ∧ w = wr) (fun v _ => l.length - (intOf v).toNat)
        case atStart => exact ⟨0, rfl, Nat.zero_le _, fun i d hi => absurd hi (by omega), rfl⟩
        case round =>
          obtain ⟨k, rfl, hk, hall, rfl⟩ := hrel
          have HALL := Lib.hid hall
          clear hall hg
          by_cases hlt : k < l.length
          · obtain ⟨d, hd⟩ : ∃ d, l[k]? = some d := ⟨_, List.getElem?_eq_getElem hlt⟩
            have hgd := str_getE hd (by omega)
            have hu := u8_lt d
            have HD := Lib.hid hd
            have HGOOD := Lib.hid (show wrdB d = true → ∀ i e, i < k + 1 → l[i]? = some e → wrdB e = true from fun h i e hi he => by
              rcases Nat.lt_or_ge i k with h1 | h1
              · exact HALL.out i e h1 he
              · have : i = k := by omega
                subst this
                rw [HD.out] at he
                cases he
                exact h)
            have HBAD := Lib.hid (show wrdB d = false → nmIs l = false from fun h => by
              rw [HX.out, List.all_eq_false]
              exact ⟨d, List.mem_of_getElem? HD.out, by simp [h]⟩)
            clear hd
            go_wp2_with fail
            refine (r6Letter_any d _).mono ?_
            rintro e w2 ⟨rfl, rfl⟩
            rcases hld : letB d with _ | _
            · rcases hdd : digB d with _ | _
              · have HY := Lib.hid (HBAD.out (by unfold wrdB; rw [hld, hdd]; rfl))
                rw [dig_cmp] at hdd
                by_cases h48 : (d.toNat : Int) < 48
                · go_wp2_with fail
                  go_ret
                  exact ⟨ret_bool (by rw [HY.out]), rfl⟩
                · have h57 : 57 < (d.toNat : Int) := by simp at hdd; omega
                  clear hdd
                  go_wp2_with fail
                  go_ret
                  exact ⟨ret_bool (by rw [HY.out]), rfl⟩
              · have HY := Lib.hid (HGOOD.out (by unfold wrdB; rw [hdd]; simp))
                rw [dig_cmp] at hdd
                have h48 : ¬ (d.toNat : Int) < 48 := by simp at hdd; omega
                have h57 : ¬ 57 < (d.toNat : Int) := by simp at hdd; omega
                clear hdd
                go_wp2_with fail
                refine ⟨⟨k + 1, by simp, hlt, HY.out, trivial⟩, ?_⟩
                simp [intOf]
                omega
            · have HY := Lib.hid (HGOOD.out (let_wrd hld))
              go_wp2_with fail
              refine ⟨⟨k + 1, by simp, hlt, HY.out, trivial⟩, ?_⟩
              simp [intOf]
              omega
          · have HY := Lib.hid (show nmIs l = true by
              rw [HX.out, List.all_eq_true]
              intro d hd
              obtain ⟨i, hi⟩ := List.getElem?_of_mem hd
              exact HALL.out i d (by have := (List.getElem?_eq_some_iff.1 hi).1; omega) hi)
            go_wp2_with fail
            go_ret
            exact ⟨ret_bool (by rw [HY.out]), rfl⟩
    · have HX := Lib.hid (show nmIs l = false by rw [HIS.out]; simp [h40])
      go_enter Tryd.func37, Tryd.ntmps37
      go_wp2_with fail
      go_ret
      exact ⟨ret_bool (by rw [HX.out]), rfl⟩

set_option maxHeartbeats 1600000 in
set_option maxRecDepth 100000 in
theorem r6In_any (A : Option Addr) (n cap : Nat) (ls : List (List UInt8)) (s : List UInt8) (w : World) (hn : ls.length = n) (hbig : n ≤ 1000) (hr : Rd All w A (ls.map sv)) :
    Calls Tryd.prog 57 #[.slice A n cap, .string (str s)] w fun e w' => e = .returned (.bool (ls.contains s)) ∧ w = w' := by
  have HR := Lib.hid hr
  have HN := Lib.hid hn
  clear hr hn
  go_enter Tryd.func57, Tryd.ntmps57
  go_wp2_with fail
  go_loopw [5] (fun v wr => ∃ k : Nat, v = .int .i64 (k : Nat) ∧ k ≤ n ∧ (∀ i d, i < k → ls[i]? = some d → d ≠ s) ∧ w = wr) (fun v _ => n - (intOf v).toNat)
  case atStart => exact ⟨0, rfl, Nat.zero_le _, fun i d hi => absurd hi (by omega), rfl⟩
  case round =>
    obtain ⟨k, rfl, hk, hall, rfl⟩ := hrel
    have HALL := Lib.hid hall
    clear hall
    by_cases hlt : k < n
    · obtain ⟨d, hd⟩ : ∃ d, ls[k]? = some d := ⟨_, List.getElem?_eq_getElem (by rw [HN.out]; exact hlt)⟩
      have hcell : (ls.map sv)[k]? = some (sv d) := by rw [List.getElem?_map, hd]; rfl
      obtain ⟨ad, rfl, _, hadl, hcell'⟩ := HR.out.at_ hcell
      simp only [sv] at hcell'
      have hbq : ((str d).toList == (str s).toList) = (d == s) := by rw [str_toList, str_toList]
      have HD := Lib.hid hd
      clear hcell hd
      by_cases hds : d = s
      · have HX := Lib.hid (show ls.contains s = true by rw [List.contains_iff_mem]; exact hds ▸ List.mem_of_getElem? HD.out)
        have hq : (d == s) = true := by simp [hds]
        rw [hq] at hbq
        clear hds hq
        go_wp2_with fail
        go_ret
        exact ⟨ret_bool (by rw [HX.out]), rfl⟩
      · have HX := Lib.hid (show ∀ i e, i < k + 1 → ls[i]? = some e → e ≠ s from fun i e hi he => by
          rcases Nat.lt_or_ge i k with h1 | h1
          · exact HALL.out i e h1 he
          · have : i = k := by omega
            subst this
            rw [HD.out] at he
            cases he
            exact hds)
        have hq : (d == s) = false := by simp [hds]
        rw [hq] at hbq
        clear hds hq
        go_wp2_with fail
        refine ⟨⟨k + 1, by simp, hlt, HX.out, trivial⟩, ?_⟩
        simp [intOf]
        omega
    · have HX := Lib.hid (show ls.contains s = false by
        rw [Bool.eq_false_iff, Ne, List.contains_iff_mem]
        intro h
        obtain ⟨i, hi⟩ := List.getElem?_of_mem h
        exact HALL.out i s (by have := (List.getElem?_eq_some_iff.1 hi).1; rw [HN.out] at this; omega) hi rfl)
      go_wp2_with fail
      go_ret
      exact ⟨ret_bool (by rw [HX.out]), rfl⟩
end Go.Proofs.YtefloadjolpgbaaDoor

namespace Go.Proofs.YtefloadjolpgbaaDoor
open Go.RowKit

structure KwSt (w : World) (l : List UInt8) (v : Value) (fr i : Nat) (done : List (List UInt8)) (wr : World) : Prop where
  le : fr ≤ i
  il : i ≤ l.length
  eq : splitC l = (done ++ (splitC (l.drop fr)).1, (splitC (l.drop fr)).2)
  low : ∀ p ∈ done, nmLower p = true
  no : ∀ j c, fr ≤ j → j < i → l[j]? = some c → c ≠ 58
  own : wr.ownsRow w.heap.size 9 1 v done.length (done.map fun p => sv (p ++ [58]))
  mod : Mod Nil w wr
  len : done.length ≤ fr

theorem seg_no {l : List UInt8} {fr i : Nat} (h : ∀ j c, fr ≤ j → j < i → l[j]? = some c → c ≠ 58) : ∀ c ∈ (l.drop fr).take (i - fr), c ≠ 58 := by
  intro c hc
  obtain ⟨j, hj⟩ := List.getElem?_of_mem hc
  rw [List.getElem?_take] at hj
  split at hj
  · rw [List.getElem?_drop] at hj
    exact h (fr + j) c (by omega) (by omega) hj
  · cases hj
/-- At a colon. -/
theorem KwSt.split {w wr : World} {l : List UInt8} {v : Value} {fr i : Nat} {done : List (List UInt8)} (h : KwSt w l v fr i done wr) (hc : l[i]? = some 58) :
    splitC (l.drop fr) = ((l.drop fr).take (i - fr) :: (splitC (l.drop (i + 1))).1, (splitC (l.drop (i + 1))).2) := by
  have hlt := (List.getElem?_eq_some_iff.1 hc).1
  have h1 : l.drop fr = (l.drop fr).take (i - fr) ++ 58 :: l.drop (i + 1) := by
    have h2 : (l.drop fr).drop (i - fr) = 58 :: l.drop (i + 1) := by
      rw [List.drop_drop, show fr + (i - fr) = i by have := h.le; omega, List.drop_eq_getElem_cons hlt, (List.getElem?_eq_some_iff.1 hc).2]
    rw [← h2, List.take_append_drop]
  have h3 := splitC_append ((l.drop fr).take (i - fr)) (l.drop (i + 1))
  rw [← h1, splitC_nocolon (seg_no h.no)] at h3
  exact h3
theorem KwSt.bad {w wr : World} {l : List UInt8} {v : Value} {fr i : Nat} {done : List (List UInt8)} (h : KwSt w l v fr i done wr) (hc : l[i]? = some 58) (hp : nmLower ((l.drop fr).take (i - fr)) = false) : kwL l = [] := by
  have : nmKw l = false := by
    rw [Bool.eq_false_iff]
    intro hk
    have h1 := (kw_parts hk).2.2.2 ((l.drop fr).take (i - fr)) (by rw [h.eq, h.split hc]; simp)
    rw [hp] at h1
    cases h1
  unfold kwL
  rw [this]
  rfl
theorem KwSt.next {w wr wr' : World} {l : List UInt8} {v v' : Value} {fr i : Nat} {done : List (List UInt8)} (h : KwSt w l v fr i done wr) (hc : l[i]? = some 58) (hp : nmLower ((l.drop fr).take (i - fr)) = true)
    (hown : wr'.ownsRow w.heap.size 9 1 v' (done.length + 1) ((done.map fun p => sv (p ++ [58])) ++ [sv ((l.drop fr).take (i - fr) ++ [58])])) (hm : Mod Nil w wr') :
    KwSt w l v' (i + 1) (i + 1) (done ++ [(l.drop fr).take (i - fr)]) wr' := by
  have hlt := (List.getElem?_eq_some_iff.1 hc).1
  refine ⟨Nat.le_refl _, hlt, ?_, ?_, fun j c h1 h2 => by omega, ?_, hm, ?_⟩
  · rw [h.eq, h.split hc]
    simp
  · intro p hp'
    rcases List.mem_append.1 hp' with h1 | h1
    · exact h.low p h1
    · simp at h1
      rw [h1]
      exact hp
  · simpa using hown
  · have := h.le
    have := h.len
    simp
    omega
theorem KwSt.step {w wr : World} {l : List UInt8} {v : Value} {fr i : Nat} {done : List (List UInt8)} (h : KwSt w l v fr i done wr) {c : UInt8} (hc : l[i]? = some c) (hne : c ≠ 58) : KwSt w l v fr (i + 1) done wr :=
  ⟨by have := h.le; omega, (List.getElem?_eq_some_iff.1 hc).1, h.eq, h.low, fun j d h1 h2 hd => by
    rcases Nat.lt_or_ge j i with h3 | h3
    · exact h.no j d h1 h3 hd
    · have : j = i := by omega
      subst this
      rw [hc] at hd
      cases hd
      exact hne, h.own, h.mod, h.len⟩
theorem KwSt.fin {w wr : World} {l : List UInt8} {v : Value} {fr : Nat} {done : List (List UInt8)} (h : KwSt w l v fr l.length done wr) : splitC l = (done, l.drop fr) := by
  have h1 : splitC (l.drop fr) = ([], l.drop fr) := by
    refine splitC_nocolon fun c hc => ?_
    have := seg_no h.no c
    rw [List.take_of_length_le (by rw [List.length_drop]; exact Nat.le_refl _)] at this
    exact this hc
  rw [h.eq, h1]
  simp
theorem KwSt.kw {w wr : World} {l : List UInt8} {v : Value} {fr : Nat} {done : List (List UInt8)} (h : KwSt w l v fr l.length done wr) : kwL l = if fr = l.length ∧ done.length ≤ 10 then done.map (· ++ [58]) else [] := by
  have hf := h.fin
  have hil := h.le
  unfold kwL
  have hk : nmKw l = (decide (fr = l.length) && decide (1 ≤ done.length) && decide (done.length ≤ 10)) := by
    unfold nmKw
    rw [hf]
    have h1 : done.all nmLower = true := List.all_eq_true.2 h.low
    have h2 : (l.drop fr).isEmpty = decide (fr = l.length) := by
      rw [Bool.eq_iff_iff, List.isEmpty_iff, List.drop_eq_nil_iff]
      simp
      omega
    simp only
    rw [h1, h2, Bool.and_true]
  rw [hk, hf]
  by_cases h1 : fr = l.length
  · by_cases h2 : done.length ≤ 10
    · by_cases h3 : 1 ≤ done.length
      · simp [h1, h2, h3]
      · have : done = [] := List.eq_nil_of_length_eq_zero (by omega)
        subst this
        simp
    · simp [h1, h2]
  · simp [h1]
end Go.Proofs.YtefloadjolpgbaaDoor

namespace Go.Proofs.YtefloadjolpgbaaDoor
open Go.RowKit

theorem str_drop (l : List UInt8) (a : Nat) : (str l).extract a l.length = str (l.drop a) := by
  rw [str_extract, List.take_of_length_le (by rw [List.length_drop]; exact Nat.le_refl _)]
theorem str_take (l : List UInt8) (n : Nat) : (str l).extract 0 n = str (l.take n) := by
  rw [str_extract, List.drop_zero, Nat.sub_zero]

/-- Is there a keyword's colon at a place? -/
def kwB (l : List UInt8) (n : Nat) : Bool := l[n]? == some 58 && !(l[n + 1]? == some 61)

theorem prefix2 (l : List UInt8) (n : Nat) (h : l[n]? = some 58) : Lib.hasPrefix (l.drop n) [58, 61] = (l[n + 1]? == some 61) := by
  obtain ⟨r, hr⟩ : ∃ r, l.drop n = 58 :: r := by
    have hlt := (List.getElem?_eq_some_iff.1 h)
    obtain ⟨h1, h2⟩ := hlt
    exact ⟨l.drop (n + 1), by rw [List.drop_eq_getElem_cons h1, h2]⟩
  have h1 : l[n + 1]? = r[0]? := by
    have : (l.drop n)[1]? = l[n + 1]? := List.getElem?_drop
    rw [← this, hr]
    rfl
  rw [hr, h1]
  unfold Lib.hasPrefix
  cases r with
  | nil => rfl
  | cons d q => simp [List.isPrefixOf, Bool.beq_comm]

theorem ne_of_u8 {c d : UInt8} (h : c ≠ d) : ((c.toNat : Int) == (d.toNat : Int)) = false := by
  have : c.toNat ≠ d.toNat := fun h1 => h (UInt8.toNat_inj.1 h1)
  simp
  omega

end Go.Proofs.YtefloadjolpgbaaDoor
