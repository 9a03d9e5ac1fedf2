/- Contracts of frame.Scope: NewScope, out, At, Set. -/
import Derived.Test.YtpjpmlhnhcmacaaFrdM
import Derived.Test.YtpjpmlhnhcmacaaFrmY
import Derived.Laws.MakeOwn
import Derived.Outline
namespace Go.Proofs.Ytpjpmlhnhcmacaa
open Go.RowKit

def wv (x : Int) : Value := .int .u64 x
/-- A pointer to a scope of the list; nil. -/
def upV (cs : List Nat) : Option Nat → Value
  | none => .pointer none
  | some k => .pointer (some ⟨cs.getD k 0, 0, none⟩)
theorem upV_snoc {cs : List Nat} {k : Option Nat} (h : ∀ j, k = some j → j < cs.length) (b : Nat) : upV (cs ++ [b]) k = upV cs k := by
  cases k with
  | none => rfl
  | some j => simp [upV, List.getD, List.getElem?_append_left (h j rfl)]

/-- The scopes ss lie at the blocks bs: each one's own, its variables'. -/
structure ScAt (B : Nat) (w : World) (bs : List (Nat × Nat)) (ss : List Scp) : Prop where
  len : bs.length = ss.length
  nd1 : (bs.map (·.1)).Nodup
  nd2 : (bs.map (·.2)).Nodup
  at_ : ∀ (k : Nat) (s : Scp) (p : Nat × Nat), ss[k]? = some s → bs[k]? = some p → Blk w p.1 70 #[.slice (some ⟨p.2, 0, none⟩) s.vars.length s.vars.length, upV (bs.map (·.1)) s.up] ∧ Blk w p.2 34 (s.vars.map wv).toArray ∧ B ≤ p.1 ∧ B ≤ p.2
  acy : Acy ss
def ScF (bs : List (Nat × Nat)) (k : Nat) : Prop := ∃ p ∈ bs, k = p.1 ∨ k = p.2

section
variable {B : Nat} {w w' : World} {bs : List (Nat × Nat)} {ss : List Scp} {F : Nat → Prop}
theorem ScAt.get (h : ScAt B w bs ss) {k : Nat} {s : Scp} (hs : ss[k]? = some s) : ∃ p, bs[k]? = some p ∧ Blk w p.1 70 #[.slice (some ⟨p.2, 0, none⟩) s.vars.length s.vars.length, upV (bs.map (·.1)) s.up] ∧ Blk w p.2 34 (s.vars.map wv).toArray ∧ B ≤ p.1 ∧ B ≤ p.2 ∧ (bs.map (·.1)).getD k 0 = p.1 := by
  have hk : k < bs.length := by rw [h.len]; exact (List.getElem?_eq_some_iff.1 hs).1
  have hp : bs[k]? = some bs[k] := List.getElem?_eq_getElem hk
  obtain ⟨h1, h2, h3, h4⟩ := h.at_ k s _ hs hp
  exact ⟨_, hp, h1, h2, h3, h4, by simp [List.getD, hp]⟩
theorem ScAt.of (h : ScAt B w bs ss) {k : Nat} {p : Nat × Nat} (hp : bs[k]? = some p) : ∃ s, ss[k]? = some s :=
  ⟨_, List.getElem?_eq_getElem (by rw [← h.len]; exact (List.getElem?_eq_some_iff.1 hp).1)⟩
theorem ScAt.lt (h : ScAt B w bs ss) : ∀ k, ScF bs k → B ≤ k ∧ k < w.heap.size := by
  rintro k ⟨p, hp, hk⟩
  obtain ⟨j, hj⟩ := List.getElem?_of_mem hp
  obtain ⟨s, hs⟩ := h.of hj
  obtain ⟨h1, h2, h3, h4⟩ := h.at_ j s p hs hj
  rcases hk with rfl | rfl
  · exact ⟨h3, h1.lt⟩
  · exact ⟨h4, h2.lt⟩
theorem ScAt.keep (h : ScAt B w bs ss) (hm : Mod F w w') (hF : ∀ k, ScF bs k → ¬ F k) : ScAt B w' bs ss :=
  ⟨h.len, h.nd1, h.nd2, fun k s p hs hp => by
    obtain ⟨h1, h2, h3⟩ := h.at_ k s p hs hp
    have hm' := List.mem_of_getElem? hp
    exact ⟨h1.keep hm (hF _ ⟨p, hm', .inl rfl⟩), h2.keep hm (hF _ ⟨p, hm', .inr rfl⟩), h3⟩, h.acy⟩
theorem ScAt.nil (B : Nat) (w : World) : ScAt B w [] [] := ⟨rfl, by simp, by simp, fun k s p hs => by simp at hs, fun k s hs => by simp at hs⟩
/-- The scopes' blocks are none of another kind. -/
theorem ScAt.kind (h : ScAt B w bs ss) {g : Nat} {t : TypeId} {cs : Array Value} (hg : Blk w g t cs) (h1 : t ≠ 70) (h2 : t ≠ 34) : ¬ ScF bs g := by
  rintro ⟨p, hp, hk⟩
  obtain ⟨j, hj⟩ := List.getElem?_of_mem hp
  obtain ⟨s, hs⟩ := h.of hj
  obtain ⟨k1, k2, _⟩ := h.at_ j s p hs hj
  rcases hk with rfl | rfl
  · exact Blk.ne_ hg k1 h1 rfl
  · exact Blk.ne_ hg k2 h2 rfl

theorem madeCells_w (n : Nat) : madeCells (Value.int .u64 0).cells (n * 1) = ((List.replicate n (0 : Int)).map wv).toArray := by
  apply Array.toList_inj.1
  apply List.ext_getElem
  · simp [madeCells]
  · intro i h1 h2
    simp [madeCells, Value.cells, wv, Nat.mod_one]

theorem ScAt.snoc (h : ScAt B w bs ss) (hB : B ≤ w.heap.size) (n : Nat) (k : Option Nat) (hk : ∀ j, k = some j → j < ss.length) :
    ScAt B ((w.alloc (.cells ((List.replicate n (0 : Int)).map wv).toArray 34)).alloc (.cells #[.slice (some ⟨w.heap.size, 0, none⟩) n n, upV (bs.map (·.1)) k] 70)) (bs ++ [(w.heap.size + 1, w.heap.size)]) (ss ++ [⟨List.replicate n 0, k⟩]) := by
  have hm : Mod Nil w ((w.alloc (.cells ((List.replicate n (0 : Int)).map wv).toArray 34)).alloc (.cells #[.slice (some ⟨w.heap.size, 0, none⟩) n n, upV (bs.map (·.1)) k] 70)) := ((Mod.refl Nil w).alloc _).alloc _
  have hlt := h.lt
  refine ⟨by simp [h.len], ?_, ?_, ?_, ?_⟩
  · rw [List.map_append, List.nodup_append]
    refine ⟨h.nd1, by simp, fun a ha b hb => ?_⟩
    obtain ⟨p, hp, rfl⟩ := List.mem_map.1 ha
    have := (hlt p.1 ⟨p, hp, .inl rfl⟩).2
    simp at hb
    omega
  · rw [List.map_append, List.nodup_append]
    refine ⟨h.nd2, by simp, fun a ha b hb => ?_⟩
    obtain ⟨p, hp, rfl⟩ := List.mem_map.1 ha
    have := (hlt p.2 ⟨p, hp, .inr rfl⟩).2
    simp at hb
    omega
  · intro j s p hs hp
    rcases Nat.lt_or_ge j ss.length with hj | hj
    · rw [List.getElem?_append_left hj] at hs
      rw [List.getElem?_append_left (by rw [h.len]; exact hj)] at hp
      obtain ⟨k1, k2, k3⟩ := h.at_ j s p hs hp
      simp only [List.map_append, List.map_cons, List.map_nil]
      rw [upV_snoc (fun i hi => by rw [List.length_map, h.len]; exact Nat.lt_trans (h.acy j s hs i hi) hj)]
      exact ⟨k1.keep hm id, k2.keep hm id, k3⟩
    · obtain rfl : j = ss.length := by
        have := (List.getElem?_eq_some_iff.1 hs).1
        simp at this
        omega
      simp at hs
      rw [← h.len] at hp
      simp at hp
      subst hs hp
      simp only [List.map_append, List.map_cons, List.map_nil]
      rw [upV_snoc (fun i hi => by rw [List.length_map, h.len]; exact hk i hi)]
      refine ⟨?_, ?_, by show B ≤ w.heap.size + 1; omega, hB⟩
      · have := Blk.new (w.alloc (.cells ((List.replicate n (0 : Int)).map wv).toArray 34)) 70 #[.slice (some ⟨w.heap.size, 0, none⟩) n n, upV (bs.map (·.1)) k]
        simpa using this
      · exact (Blk.new w 34 _).alloc _
  · exact snoc_acy h.acy _ hk

theorem nodup_at {l : List Nat} (h : l.Nodup) {i j a : Nat} (hi : l[i]? = some a) (hj : l[j]? = some a) : i = j := by
  obtain ⟨p1, q1⟩ := List.getElem?_eq_some_iff.1 hi
  obtain ⟨p2, q2⟩ := List.getElem?_eq_some_iff.1 hj
  exact (List.getElem_inj h).1 (q1.trans q2.symm)

theorem ScAt.set_ (h : ScAt B w bs ss) {j i : Nat} {p : Nat × Nat} (hp : bs[j]? = some p) (x : Int) : ScAt B (w.setCell ⟨p.2, i, none⟩ (wv x)) bs (setVar ss j i x) := by
  have hms : Mod (fun k => k = p.2) w (w.setCell ⟨p.2, i, none⟩ (wv x)) := (Mod.refl (fun k => k = p.2) w).set (p := ⟨p.2, i, none⟩) (.inl rfl) _
  obtain ⟨sj, hsj⟩ := h.of hp
  have hpj := h.at_ j sj p hsj hp
  refine ⟨by rw [setVar_length]; exact h.len, h.nd1, h.nd2, fun k s q hs hq => ?_, setVar_acy h.acy _ _ _⟩
  rw [setVar_at] at hs
  by_cases hkj : k = j
  · subst hkj
    rw [if_pos rfl, hsj] at hs
    simp at hs
    subst hs
    rw [hp] at hq
    injection hq with hq
    subst hq
    obtain ⟨k1, k2, k3⟩ := hpj
    refine ⟨?_, ?_, k3⟩
    · have := k1.keep hms (fun e => Blk.ne_ k1 k2 (by decide) e)
      simpa using this
    · have := k2.set_ i (wv x)
      rwa [show ((sj.vars.map wv).toArray.setIfInBounds i (wv x)) = ((sj.vars.set i x).map wv).toArray by
        apply Array.toList_inj.1
        simp] at this
  · rw [if_neg hkj] at hs
    obtain ⟨k1, k2, k3⟩ := h.at_ k s q hs hq
    refine ⟨k1.keep hms (fun e => Blk.ne_ k1 hpj.2.1 (by decide) e), k2.keep hms (fun e => hkj ?_), k3⟩
    exact nodup_at h.nd2 (a := p.2) (by rw [List.getElem?_map, hq]; simp [e]) (by rw [List.getElem?_map, hp]; rfl)
end

set_option maxHeartbeats 1600000 in
set_option maxRecDepth 100000 in
theorem newScope_any (B : Nat) (bs : List (Nat × Nat)) (ss : List Scp) (N : Int) (k : Option Nat) (w : World) (h : ScAt B w bs ss) (hB : B ≤ w.heap.size) (hN : N ≤ 1000) (hk : ∀ j, k = some j → j < ss.length) :
    Calls Try.prog 9 #[.int .i64 N, upV (bs.map (·.1)) k] w fun r w' => ∃ p, r = .returned (.pointer (some ⟨p.1, 0, none⟩)) ∧ ScAt B w' (bs ++ [p]) (ss ++ [⟨List.replicate (max N 0).toNat 0, k⟩]) ∧ Mod Nil w w' ∧ w.heap.size ≤ p.1 ∧ w.heap.size ≤ p.2 := by
  obtain ⟨i0, hi, hz0, hz1, hz2⟩ := info_parts (show (Try.prog.info? 34).map (fun i => (i.zero, i.size, i.bytes)) = some (some (.int .u64 0), 1, 8) by kernel_rfl)
  have hmk : ∀ (n : Nat) (w : World), n ≤ 1000 → (Instr.makeSlice 35 (.int .i64 (n : Int)) (.int .i64 (n : Int))).run Try.prog w = .ok (.slice (some ⟨w.heap.size, 0, none⟩) n n) (w.alloc (.cells ((List.replicate n (0 : Int)).map wv).toArray 34)) := by
    intro n w hn1
    have := run_make (P := Try.prog) w 35 34 i0 (.int .u64 0) Try.underlying35 hi hz0 .i64 .i64 (n : Int) (n : Int) (by omega) (by omega) (by rw [hz2]; omega) (by omega)
    rw [this, hz1, Int.toNat_natCast, madeCells_w]
  have HS := Lib.hid (fun n => h.snoc hB n k hk)
  obtain ⟨uv, hu⟩ : ∃ uv, uv = upV (bs.map (·.1)) k := ⟨_, rfl⟩
  have hup : ∃ p, uv = .pointer p := by rw [hu]; cases k <;> exact ⟨_, rfl⟩
  rw [← hu] at HS ⊢
  obtain ⟨p, rfl⟩ := hup
  clear h hu hi hz0 hz1 hz2 hk
  by_cases h0 : 0 ≤ N
  · obtain ⟨n, rfl⟩ := Int.eq_ofNat_of_zero_le h0
    have HE := Lib.hid (show (max (n : Int) 0).toNat = n by omega)
    have hmk := hmk n w (by omega)
    clear h0
    go_enter Try.func9, Try.ntmps9
    go_wp2_with fail
    all_goals
      go_ret
      rw [HE.out]
      exact ⟨(w.heap.size + 1, w.heap.size), rfl, by have := HS.out n; simp only [List.map_replicate, List.toArray_replicate] at this; exact this, ((Mod.refl Nil w).alloc _).alloc _, Nat.le_succ _, Nat.le_refl _⟩
  · have HE := Lib.hid (show (max N 0).toNat = 0 by omega)
    have hmk := hmk 0 w (by omega)
    simp only [Int.natCast_zero] at hmk
    have hneg : N < 0 := by omega
    clear h0
    go_enter Try.func9, Try.ntmps9
    go_wp2_with fail
    go_ret
    rw [HE.out]
    exact ⟨(w.heap.size + 1, w.heap.size), rfl, by have := HS.out 0; simp only [List.map_replicate, List.toArray_replicate] at this; exact this, ((Mod.refl Nil w).alloc _).alloc _, Nat.le_succ _, Nat.le_refl _⟩

theorem outI_zero (ss : List Scp) (k : Option Nat) : outI ss k 0 = k := by unfold outI; rw [if_neg (by omega)]; exact outOf_zero ss k
theorem outI_neg (ss : List Scp) (k : Option Nat) {u : Int} (h : u < 0) : outI ss k u = none := by unfold outI; rw [if_pos h]
theorem outI_none (ss : List Scp) (u : Int) : outI ss none u = none := by unfold outI; split; rfl; exact outOf_none ss _
theorem outI_step (ss : List Scp) (k : Nat) {u : Int} (h : 0 < u) : outI ss (some k) u = outI ss (upOf ss k) (u - 1) := by
  unfold outI
  rw [if_neg (by omega), if_neg (by omega)]
  obtain ⟨n, hn⟩ : ∃ n : Nat, u = n + 1 := ⟨(u - 1).toNat, by omega⟩
  subst hn
  rw [show ((n : Int) + 1).toNat = n + 1 by omega, show ((n : Int) + 1 - 1).toNat = n by omega]
  rfl

set_option maxHeartbeats 3200000 in
set_option maxRecDepth 100000 in
theorem out_any (B : Nat) (bs : List (Nat × Nat)) (ss : List Scp) (k : Option Nat) (up i : Int) (w : World) (h : ScAt B w bs ss) (hk : ∀ j, k = some j → j < ss.length) (hup : up ≤ 9223372036854775807) (hbig : ∀ s ∈ ss, s.vars.length ≤ 1000) :
    Calls Try.prog 22 #[upV (bs.map (·.1)) k, .int .i64 up, .int .i64 i] w fun r w' => r = .returned (upV (bs.map (·.1)) (outVar ss (outI ss k up) i)) ∧ w = w' := by
  have H := Lib.hid h
  have HK := Lib.hid hk
  have HBIG := Lib.hid hbig
  obtain ⟨rv, hrv⟩ : ∃ rv, rv = upV (bs.map (·.1)) (outVar ss (outI ss k up) i) := ⟨_, rfl⟩
  obtain ⟨o, ho⟩ : ∃ o, o = outI ss k up := ⟨_, rfl⟩
  have HO := Lib.hid ho
  have HRV := Lib.hid (show rv = upV (bs.map (·.1)) (outVar ss o i) by rw [hrv, ho])
  rw [← hrv]
  obtain ⟨uv, hu⟩ : ∃ uv, uv = upV (bs.map (·.1)) k := ⟨_, rfl⟩
  have HU := Lib.hid hu
  rw [← hu]
  have hup2 : ∃ p, uv = .pointer p := by rw [hu]; cases k <;> exact ⟨_, rfl⟩
  obtain ⟨p, rfl⟩ := hup2
  clear h hk hbig hrv ho hu
  go_enter Try.func22, Try.ntmps22
  go_wp2_with fail
  go_loop [0, 1] (fun sv uv => ∃ (k' : Option Nat) (u : Int), sv = upV (bs.map (·.1)) k' ∧ uv = .int .i64 u ∧ outI ss k' u = o ∧ (∀ j, k' = some j → j < ss.length) ∧ u ≤ up) (fun _ v => (intOf v).toNat)
  case atStart => exact ⟨k, up, HU.out, rfl, HO.out.symm, HK.out, Int.le_refl _⟩
  case round =>
    obtain ⟨k', u, rfl, rfl, hou, hk', hle⟩ := hrel
    have HOU := Lib.hid hou
    have HK' := Lib.hid hk'
    clear hou hk'
    cases k' with
    | none =>
      have HR := Lib.hid (show rv = .pointer none by rw [HRV.out, ← HOU.out, outI_none]; rfl)
      show _
      simp only [upV]
      go_wp2_with fail
      all_goals
        go_ret
        exact ⟨by rw [HR.out]; rfl, rfl⟩
    | some j =>
      have hj := HK'.out j rfl
      obtain ⟨s, hs⟩ : ∃ s, ss[j]? = some s := ⟨_, List.getElem?_eq_getElem hj⟩
      obtain ⟨q, hq, hb1, hb2, _, _, hgq⟩ := H.out.get hs
      have hc0 := hb1.cell 0
      have hc1 := hb1.cell 1
      have hlen := HBIG.out s (List.mem_of_getElem? hs)
      have HS := Lib.hid hs
      have hvar : varsOf ss j = s.vars := by unfold varsOf; rw [hs]; rfl
      have HV := Lib.hid hvar
      have hue : upOf ss j = s.up := by unfold upOf; rw [hs]; rfl
      have HUE := Lib.hid hue
      simp only [upV]
      rw [hgq]
      have HGQ := Lib.hid hgq
      clear hs hq hb1 hb2 hj hgq hvar hue
      by_cases hu0 : 0 < u
      · have HN := Lib.hid (show outI ss (upOf ss j) (u - 1) = o by rw [← outI_step ss j hu0]; exact HOU.out)
        go_wp2_with fail
        go_round
        case rel => exact ⟨upOf ss j, u - 1, by rw [HUE.out]; cases s.up <;> rfl, rfl, HN.out, fun i hi => Nat.lt_trans (upOf_lt H.out.acy hi) (HK'.out j rfl), by omega⟩
        case measure => simp [intOf] <;> omega
      · by_cases hun : u < 0
        · have HR := Lib.hid (show rv = .pointer none by rw [HRV.out, ← HOU.out, outI_neg ss _ hun]; rfl)
          go_wp2_with fail
          go_ret
          exact ⟨by rw [HR.out]; rfl, rfl⟩
        · obtain rfl : u = 0 := by omega
          have HO2 := Lib.hid (show o = some j by rw [← HOU.out, outI_zero])
          by_cases hi0 : i < 0
          · have HR := Lib.hid (show rv = .pointer none by rw [HRV.out, HO2.out]; unfold outVar; simp only [HV.out]; rw [if_neg (by omega)]; rfl)
            go_wp2_with fail
            go_ret
            exact ⟨by rw [HR.out]; rfl, rfl⟩
          · by_cases hi1 : i < s.vars.length
            · have HR := Lib.hid (show rv = .pointer (some ⟨q.1, 0, none⟩) by rw [HRV.out, HO2.out]; unfold outVar; simp only [HV.out]; rw [if_pos (by omega)]; simp only [upV]; rw [HGQ.out])
              go_wp2_with fail
              go_ret
              exact ⟨by rw [HR.out]; rfl, rfl⟩
            · have HR := Lib.hid (show rv = .pointer none by rw [HRV.out, HO2.out]; unfold outVar; simp only [HV.out]; rw [if_neg (by omega)]; rfl)
              go_wp2_with fail
              go_ret
              exact ⟨by rw [HR.out]; rfl, rfl⟩

theorem outVar_at {ss : List Scp} {o : Option Nat} {i : Int} {j : Nat} (h : outVar ss o i = some j) : o = some j ∧ 0 ≤ i ∧ i < (varsOf ss j).length := by
  unfold outVar at h
  cases o with
  | none => cases h
  | some k =>
    simp only at h
    split at h
    · injection h with h; subst h; exact ⟨rfl, by assumption⟩
    · cases h

set_option maxHeartbeats 1600000 in
set_option maxRecDepth 100000 in
theorem at_any (B : Nat) (bs : List (Nat × Nat)) (ss : List Scp) (k : Option Nat) (up i : Int) (w : World) (h : ScAt B w bs ss) (hk : ∀ j, k = some j → j < ss.length) (hup : up ≤ 9223372036854775807) (hbig : ∀ s ∈ ss, s.vars.length ≤ 1000) :
    Calls Try.prog 16 #[upV (bs.map (·.1)) k, .int .i64 up, .int .i64 i] w fun r w' => (match outVar ss (outI ss k up) i with | none => r = .returned (.tuple #[.int .u64 0, .bool false]) | some j => r = .returned (.tuple #[.int .u64 ((varsOf ss j).getD i.toNat 0), .bool true])) ∧ w = w' := by
  have H := Lib.hid h
  have HO := Lib.hid (out_any B bs ss k up i w h hk hup hbig)
  obtain ⟨uv, hu⟩ : ∃ uv, uv = upV (bs.map (·.1)) k := ⟨_, rfl⟩
  rw [← hu] at HO ⊢
  have hup2 : ∃ p, uv = .pointer p := by rw [hu]; cases k <;> exact ⟨_, rfl⟩
  obtain ⟨p, rfl⟩ := hup2
  have HBIG := Lib.hid hbig
  clear h hu hk hup hbig
  rcases hov : outVar ss (outI ss k up) i with _ | j
  · rw [hov] at HO
    clear hov
    simp only [upV] at HO
    go_enter Try.func16, Try.ntmps16
    go_wp2_with fail
    refine HO.out.mono ?_
    rintro r w1 ⟨rfl, rfl⟩
    go_wp2_with fail
    go_ret2
    exact ⟨rfl, rfl⟩
  · obtain ⟨_, hi0, hi1⟩ := outVar_at hov
    rw [hov] at HO
    clear hov
    simp only [upV] at HO
    have hsj : ∃ s, ss[j]? = some s := by
      rcases hs : ss[j]? with _ | s
      · unfold varsOf at hi1; rw [hs] at hi1; simp at hi1; omega
      · exact ⟨s, rfl⟩
    obtain ⟨s, hs⟩ := hsj
    have hvar : varsOf ss j = s.vars := by unfold varsOf; rw [hs]; rfl
    rw [hvar] at hi1
    simp only [hvar]
    obtain ⟨q, hq, hb1, hb2, _, _, hgq⟩ := H.out.get hs
    rw [hgq] at HO
    obtain ⟨n, rfl⟩ := Int.eq_ofNat_of_zero_le hi0
    have hn : n < s.vars.length := by omega
    have hc0 := hb1.cell 0
    have hcn : w.cell? ⟨q.2, n, none⟩ = some (.int .u64 (s.vars.getD n 0)) := by
      rw [hb2.cell n]
      simp [hn, wv, List.getD]
    have hlen := HBIG.out s (List.mem_of_getElem? hs)
    obtain ⟨x, hx⟩ : ∃ x, x = s.vars.getD n 0 := ⟨_, rfl⟩
    rw [← hx] at hcn
    rw [Int.toNat_natCast, ← hx]
    clear hs hq hb1 hb2 hgq hvar hi0 hi1 hx
    go_enter Try.func16, Try.ntmps16
    go_wp2_with fail
    refine HO.out.mono ?_
    rintro r w1 ⟨rfl, rfl⟩
    go_wp2_with fail
    go_ret2
    exact ⟨rfl, rfl⟩

set_option maxHeartbeats 1600000 in
set_option maxRecDepth 100000 in
theorem set_any (B : Nat) (bs : List (Nat × Nat)) (ss : List Scp) (k : Option Nat) (up i x : Int) (w : World) (h : ScAt B w bs ss) (hk : ∀ j, k = some j → j < ss.length) (hup : up ≤ 9223372036854775807) (hbig : ∀ s ∈ ss, s.vars.length ≤ 1000) :
    Calls Try.prog 10 #[upV (bs.map (·.1)) k, .int .i64 up, .int .i64 i, .int .u64 x] w fun r w' => (match outVar ss (outI ss k up) i with | none => r = .returned (.bool false) ∧ ScAt B w' bs ss | some j => r = .returned (.bool true) ∧ ScAt B w' bs (setVar ss j i.toNat x)) ∧ Mod (ScF bs) w w' := by
  have H := Lib.hid h
  have HO := Lib.hid (out_any B bs ss k up i w h hk hup hbig)
  obtain ⟨uv, hu⟩ : ∃ uv, uv = upV (bs.map (·.1)) k := ⟨_, rfl⟩
  rw [← hu] at HO ⊢
  have hup2 : ∃ p, uv = .pointer p := by rw [hu]; cases k <;> exact ⟨_, rfl⟩
  obtain ⟨p, rfl⟩ := hup2
  have HBIG := Lib.hid hbig
  clear h hu hk hup hbig
  rcases hov : outVar ss (outI ss k up) i with _ | j
  · rw [hov] at HO
    clear hov
    simp only [upV] at HO
    go_enter Try.func10, Try.ntmps10
    go_wp2_with fail
    refine HO.out.mono ?_
    rintro r w1 ⟨rfl, rfl⟩
    go_wp2_with fail
    go_ret
    exact ⟨⟨rfl, H.out⟩, Mod.refl _ _⟩
  · obtain ⟨_, hi0, hi1⟩ := outVar_at hov
    rw [hov] at HO
    clear hov
    simp only [upV] at HO
    have hsj : ∃ s, ss[j]? = some s := by
      rcases hs : ss[j]? with _ | s
      · unfold varsOf at hi1; rw [hs] at hi1; simp at hi1; omega
      · exact ⟨s, rfl⟩
    obtain ⟨s, hs⟩ := hsj
    have hvar : varsOf ss j = s.vars := by unfold varsOf; rw [hs]; rfl
    rw [hvar] at hi1
    obtain ⟨q, hq, hb1, hb2, _, _, hgq⟩ := H.out.get hs
    rw [hgq] at HO
    obtain ⟨n, rfl⟩ := Int.eq_ofNat_of_zero_le hi0
    have hn : n < s.vars.length := by omega
    have hc0 := hb1.cell 0
    have hcn : w.cell? ⟨q.2, n, none⟩ = some (.int .u64 (s.vars.getD n 0)) := by
      rw [hb2.cell n]
      simp [hn, wv, List.getD]
    have hzn := hb2.frozen n
    have hlen := HBIG.out s (List.mem_of_getElem? hs)
    have HSET := Lib.hid (H.out.set_ (i := n) hq x)
    have HMS := Lib.hid (show Mod (ScF bs) w (w.setCell ⟨q.2, n, none⟩ (wv x)) from (Mod.refl (ScF bs) w).set (p := ⟨q.2, n, none⟩) (.inl ⟨q, List.mem_of_getElem? hq, .inr rfl⟩) _)
    rw [Int.toNat_natCast]
    clear hs hq hb1 hb2 hgq hvar hi0 hi1
    go_enter Try.func10, Try.ntmps10
    go_wp2_with fail
    refine HO.out.mono ?_
    rintro r w1 ⟨rfl, rfl⟩
    go_wp2_with fail
    go_ret
    exact ⟨⟨rfl, HSET.out⟩, HMS.out⟩
end Go.Proofs.Ytpjpmlhnhcmacaa
