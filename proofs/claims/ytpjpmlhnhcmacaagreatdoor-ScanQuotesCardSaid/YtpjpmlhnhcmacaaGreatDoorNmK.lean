/- strings.genSplit at a colon, walked. -/
import Derived.Test.YtpjpmlhnhcmacaaGreatDoorNmB
import Derived.Deep.Draws
namespace Go.Proofs.YtpjpmlhnhcmacaaGreatDoor
open Go.RowKit

def sv (p : List UInt8) : Value := .string (str p)

theorem splitC_count : ∀ l : List UInt8, Lib.countByte l 58 = (splitC l).1.length
  | [] => rfl
  | c :: r => by
    have ih := splitC_count r
    unfold Lib.countByte at ih ⊢
    rw [splitC, List.count_cons, ih]
    by_cases hc : c = 58
    · simp [hc]
    · rw [if_neg hc, if_neg (by simpa using hc)]
      rcases (splitC r).1 with _ | ⟨p, ps⟩ <;> simp
theorem splitC_len (l : List UInt8) : (splitC l).1.length ≤ l.length := by
  rw [← splitC_count]
  exact List.count_le_length
theorem split_step : ∀ {rest : List UInt8}, (splitC rest).1 ≠ [] → ∃ p r', rest = p ++ 58 :: r' ∧ Lib.indexByte rest 58 = p.length ∧ splitC rest = (p :: (splitC r').1, (splitC r').2)
  | [], h => absurd rfl h
  | c :: r, h => by
    by_cases hc : c = 58
    · subst hc
      exact ⟨[], r, rfl, by simp [Lib.indexByte], by rw [splitC, if_pos rfl]⟩
    · have h2 : (splitC r).1 ≠ [] := by
        intro h0
        rw [splitC, if_neg hc, h0] at h
        exact h rfl
      obtain ⟨p, r', h3, h4, h5⟩ := split_step (rest := r) h2
      refine ⟨c :: p, r', by rw [h3]; rfl, ?_, by rw [splitC, if_neg hc, h5]⟩
      have hb : (c == 58) = false := by simp [hc]
      have hne : ((p.length : Int) == -1) = false := by simp
      rw [Lib.indexByte, hb, h4, hne]
      simp
theorem split_end {rest : List UInt8} (h : (splitC rest).1 = []) : (splitC rest).2 = rest := by
  have := splitC_join rest
  rw [h] at this
  simpa using this

/-- What the row holds when so many pieces are done. -/
def spCells (n : Nat) (done : List (List UInt8)) : Array Value := (done.map (fun p => sv (p ++ [58])) ++ List.replicate (n + 1 - done.length) (sv [])).toArray
theorem spCells_set {n : Nat} {done : List (List UInt8)} (h : done.length < n) (p : List UInt8) : (spCells n done).setIfInBounds done.length (sv (p ++ [58])) = spCells n (done ++ [p]) := by
  unfold spCells
  obtain ⟨m, hm⟩ : ∃ m, n + 1 - done.length = m + 1 := ⟨n - done.length, by omega⟩
  rw [hm, List.length_append, List.length_singleton, show n + 1 - (done.length + 1) = m by omega, List.replicate_succ]
  simp
theorem spCells_get {n : Nat} {done : List (List UInt8)} (h : done.length ≤ n) : (spCells n done)[done.length]? = some (sv []) := by
  unfold spCells
  obtain ⟨m, hm⟩ : ∃ m, n + 1 - done.length = m + 1 := ⟨n - done.length, by omega⟩
  rw [hm]
  simp
theorem spCells_end {n : Nat} {done : List (List UInt8)} (h : done.length = n) (r : List UInt8) : (spCells n done).setIfInBounds n (sv r) = (done.map (fun p => sv (p ++ [58])) ++ [sv r]).toArray := by
  unfold spCells
  rw [h, show n + 1 - n = 1 by omega]
  simp [h]

structure SpSt (w : World) (l : List UInt8) (done : List (List UInt8)) (rest : List UInt8) (wr : World) : Prop where
  eq : splitC l = (done ++ (splitC rest).1, (splitC rest).2)
  le : rest.length ≤ l.length
  blk : Blk wr w.heap.size 9 (spCells (splitC l).1.length done)
  mod : Mod Nil w wr

set_option maxHeartbeats 1600000 in
set_option maxRecDepth 100000 in
theorem gsplit_any (l : List UInt8) (hl : l.length ≤ 5000) (w : World) :
    Calls Tryz.prog 178 #[.string (str l), .string ⟨#[58]⟩, .int .i64 1, .int .i64 (-1)] w fun e w' => e = .returned (.slice (some ⟨w.heap.size, 0, none⟩) ((splitC l).1.length + 1) ((splitC l).1.length + 1)) ∧
      Blk w' w.heap.size 9 ((splitC l).1.map (fun p => sv (p ++ [58])) ++ [sv (splitC l).2]).toArray ∧ Mod Nil w w' := by
  have hcnt := splitC_count l
  have hcl := splitC_len l
  obtain ⟨n, hn⟩ : ∃ n, n = (splitC l).1.length := ⟨_, rfl⟩
  obtain ⟨i0, hi, hz0, hz1, hz2⟩ := info_parts (show (Tryz.prog.info? 9).map (fun i => (i.zero, i.size, i.bytes)) = some (some (.string ⟨#[]⟩), 1, 16) by kernel_rfl)
  have hmk : (Instr.makeSlice 41 (.int .i64 ((n : Int) + 1)) (.int .i64 ((n : Int) + 1))).run Tryz.prog w = .ok (.slice (some ⟨w.heap.size, 0, none⟩) (n + 1) (n + 1)) (w.alloc (.cells (spCells n []) 9)) := by
    have := run_make (P := Tryz.prog) w 41 9 i0 (.string ⟨#[]⟩) Tryz.underlying41 hi hz0 .i64 .i64 ((n : Int) + 1) ((n : Int) + 1) (by omega) (by omega) (by rw [hz2]; omega) (by omega)
    rw [this, hz1, show ((n : Int) + 1).toNat = n + 1 by omega]
    have hmc : madeCells (Value.string ⟨#[]⟩).cells ((n + 1) * 1) = spCells n [] := by
      unfold spCells
      simp [madeCells, sv, Value.cells, str]
      apply Array.ext
      · simp
      · intro i h1 h2
        simp [Nat.mod_one]
    rw [hmc]
  rw [← hn]
  rw [← hn] at hcnt hcl
  have hst0 : SpSt w l [] l (w.alloc (.cells (spCells n []) 9)) := ⟨by simp, Nat.le_refl _, by rw [← hn]; exact Blk.new _ _ _, (Mod.refl _ _).alloc _⟩
  have HST0 := Lib.hid hst0
  have hsz := str_size l
  have HN := Lib.hid hn
  clear hst0 hi hz0 hz1 hz2 hn
  have hcb : Lib.countByte (str l).data.toList 58 = n := hcnt
  clear hcnt
  have hmin : min (n : Int) (l.length : Int) = n := by omega
  have hn5 : n ≤ 5000 := by omega
  clear hcl
  go_enter Tryz.func178, Tryz.ntmps178
  go_wp2_with fail
  refine (Tryz.strings_Count_one (str l) 58 _).mono ?_
  rintro e w2 ⟨rfl, rfl⟩
  rw [hcb]
  go_wp2_with fail
  clear hmk hcb hmin
  go_loopw [0, 10] (fun s i wr => ∃ done rest, s = sv rest ∧ i = .int .i64 (done.length : Nat) ∧ SpSt w2 l done rest wr) (fun _ i _ => n - (intOf i).toNat)
  case atStart => exact ⟨[], l, rfl, rfl, HST0.out⟩
  case round =>
    obtain ⟨done, rest, rfl, rfl, hst⟩ := hrel
    have hdn : done.length + (splitC rest).1.length = n := by
      have := congrArg (fun x => x.1.length) hst.eq
      simp only [List.length_append] at this
      rw [HN.out, this]
    have hrl := hst.le
    have hsr := str_size rest
    have HST := Lib.hid hst
    clear hst hsz
    simp only [sv]
    by_cases hlt : done.length < n
    · have hne : (splitC rest).1 ≠ [] := by
        intro h0
        rw [h0] at hdn
        simp at hdn
        omega
      obtain ⟨p, r', hr, hix, hsp⟩ := split_step hne
      have hpl : rest.length = p.length + 1 + r'.length := by rw [hr]; simp; omega
      have he1 : (str rest).extract 0 (p.length + 1) = str (p ++ [58]) := by
        rw [str_extract, hr]
        simp [List.take_append, List.take_of_length_le]
      have he2 : (str rest).extract (p.length + 1) (p.length + 1 + r'.length) = str r' := by
        rw [str_extract, hr]
        rw [show p.length + 1 + r'.length - (p.length + 1) = r'.length by omega]
        simp [List.drop_append, List.drop_of_length_le]
      have HIX := Lib.hid (show Lib.indexByte (str rest).data.toList 58 = p.length from hix)
      have HNEXT := Lib.hid (show splitC l = ((done ++ [p]) ++ (splitC r').1, (splitC r').2) by rw [HST.out.eq, hsp]; simp)
      have HSET := Lib.hid (spCells_set (n := n) (done := done) hlt p)
      have hb := HST.out.blk
      rw [← HN.out] at hb
      have HBK := Lib.hid hb
      have hfz := hb.frozen done.length
      have hcl := (hb.cell done.length).trans (spCells_get (by omega))
      clear hb hr hix hsp hne hdn
      go_wp2_with fail
      refine (Tryz.strings_Index_one (str rest) 58 _).mono ?_
      rintro e w3 ⟨rfl, rfl⟩
      rw [HIX.out]
      go_wp2_with fail
      refine ⟨⟨done ++ [p], r', rfl, by simp, ⟨HNEXT.out, by omega, ?_, ?_⟩⟩, ?_⟩
      · rw [← HN.out, ← HSET.out]
        exact HBK.out.set_ _ _
      · exact HST.out.mod.set (.inr (Nat.le_refl _)) _
      · simp [intOf]
        omega
    · have hdone : done.length = n := by omega
      have h0 : (splitC rest).1 = [] := List.eq_nil_of_length_eq_zero (by omega)
      have h1 := split_end h0
      have HEQ := Lib.hid (show splitC l = (done, rest) by rw [HST.out.eq, h0, h1]; simp)
      have HSET := Lib.hid (spCells_end hdone rest)
      have hb := HST.out.blk
      rw [← HN.out] at hb
      have HBK := Lib.hid hb
      have hfz := hb.frozen n
      have hcl := (hb.cell done.length).trans (spCells_get (by omega))
      rw [hdone] at hcl
      clear hb h0 h1 hdn
      go_wp2_with fail
      go_ret
      refine ⟨rfl, ?_, HST.out.mod.set (.inr (Nat.le_refl _)) _⟩
      have := HBK.out.set_ n (sv rest)
      rw [HSET.out] at this
      rw [HEQ.out]
      exact this
end Go.Proofs.YtpjpmlhnhcmacaaGreatDoor
