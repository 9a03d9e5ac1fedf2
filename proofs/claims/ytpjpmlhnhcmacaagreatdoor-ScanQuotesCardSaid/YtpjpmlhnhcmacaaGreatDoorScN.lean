/- scan.skip, scan.next, walked. -/
import Derived.Test.YtpjpmlhnhcmacaaGreatDoorScK
namespace Go.Proofs.YtpjpmlhnhcmacaaGreatDoor
open Go.RowKit

def blankL : List UInt8 := [32, 9, 10, 13]
/-- How far blanks and remarks go; false: a remark that does not end, from there. -/
def skp : List UInt8 → Nat → Option Nat → Nat × Bool
  | [], a, none => (a, true)
  | [], _, some s => (s, false)
  | c :: r, a, none => if blankL.contains c then skp r (a + 1) none else if c = 34 then skp r (a + 1) (some a) else (a, true)
  | c :: r, a, some s => if c = 34 then skp r (a + 1) none else skp r (a + 1) (some s)

theorem skp_no : ∀ (r : List UInt8) (a s : Nat), Lib.indexByte r 34 = -1 → skp r a (some s) = (s, false)
  | [], _, _, _ => rfl
  | c :: r, a, s, h => by
    have hg := Lib.indexByte_ge r 34
    rw [Lib.indexByte] at h
    by_cases hc : c = 34
    · simp [hc] at h
    · have hb : (c == 34) = false := by simp [hc]
      rw [hb] at h
      simp only [Bool.false_eq_true, if_false] at h
      rw [skp, if_neg hc]
      refine skp_no r _ _ ?_
      split at h
      · rename_i h1
        simpa using h1
      · omega
theorem skp_yes : ∀ (r : List UInt8) (a s n : Nat), Lib.indexByte r 34 = (n : Int) → skp r a (some s) = skp (r.drop (n + 1)) (a + n + 1) none
  | [], _, _, n, h => by simp [Lib.indexByte] at h
  | c :: r, a, s, n, h => by
    have hg := Lib.indexByte_ge r 34
    rw [Lib.indexByte] at h
    by_cases hc : c = 34
    · simp [hc] at h
      have : n = 0 := by omega
      subst this
      rw [skp, if_pos hc]
      rfl
    · have hb : (c == 34) = false := by simp [hc]
      rw [hb] at h
      simp only [Bool.false_eq_true, if_false] at h
      rw [skp, if_neg hc]
      split at h
      · omega
      · rename_i h1
        simp at h1
        obtain ⟨m, rfl⟩ : ∃ m, n = m + 1 := ⟨n - 1, by omega⟩
        rw [skp_yes r (a + 1) s m (by omega), show a + 1 + m + 1 = a + (m + 1) + 1 by omega]
        rfl
theorem indexByte_lt (l : List UInt8) (c : UInt8) : Lib.indexByte l c < l.length := by
  induction l with
  | nil => simp [Lib.indexByte]
  | cons b r ih =>
    rw [Lib.indexByte]
    split
    · simp <;> omega
    · split
      · simp <;> omega
      · simp <;> omega

structure SkSt (l : List UInt8) (a : Nat) : Prop where
  le : a ≤ l.length
  eq : skp l 0 none = skp (l.drop a) a none

set_option maxHeartbeats 1600000 in
set_option maxRecDepth 100000 in
theorem scSkip_any (l : List UInt8) (hl : l.length ≤ 5000) (w : World) : Calls Tryz.prog 61 #[.string (str l)] w fun e w' => e = .returned (.tuple #[.int .i64 (skp l 0 none).1, .bool (skp l 0 none).2]) ∧ w = w' := by
  have hsz := str_size l
  go_enter Tryz.func61, Tryz.ntmps61
  go_wp2_with fail
  go_loopw [4] (fun v wr => ∃ a, v = .int .i64 (a : Nat) ∧ SkSt l a ∧ w = wr) (fun v _ => l.length - (intOf v).toNat)
  case atStart => exact ⟨0, rfl, ⟨Nat.zero_le _, rfl⟩, rfl⟩
  case round =>
    obtain ⟨a, rfl, hst, rfl⟩ := hrel
    have HST := Lib.hid hst
    clear hst
    by_cases hi : a < l.length
    · obtain ⟨c, hc⟩ : ∃ c, l[a]? = some c := ⟨_, List.getElem?_eq_getElem hi⟩
      have hg := str_getE hc (by omega)
      have HD := Lib.hid (show l.drop a = c :: l.drop (a + 1) by rw [List.drop_eq_getElem_cons hi, (List.getElem?_eq_some_iff.1 hc).2])
      have hix : (0 ≤ Lib.indexByte (str blankL).data.toList c) ↔ blankL.contains c = true := indexByte_pos blankL c
      clear hc
      rcases hbl : blankL.contains c with _ | _
      · rw [hbl] at hix
        have hlt : ¬ (0 ≤ Lib.indexByte (str blankL).data.toList c) := fun h => by cases hix.1 h
        have HBL := Lib.hid hbl
        clear hbl hix
        go_wp2_with fail
        refine (Tryz.strings_IndexByte (str blankL) _ _).mono ?_
        rw [u8_back]
        rintro e w4 ⟨rfl, rfl⟩
        obtain ⟨ix, hix⟩ : ∃ ix, ix = Lib.indexByte (str blankL).data.toList c := ⟨_, rfl⟩
        rw [← hix] at hlt ⊢
        clear hix
        by_cases h34 : c = 34
        · have he : (str l).extract (a + 1) l.length = str (l.drop (a + 1)) := str_drop l (a + 1)
          have HSK := Lib.hid (show skp l 0 none = skp (l.drop (a + 1)) (a + 1) (some a) by rw [HST.out.eq, HD.out, skp, HBL.out, if_pos h34]; rfl)
          have hge := Lib.indexByte_ge (l.drop (a + 1)) 34
          have hlt2 := indexByte_lt (l.drop (a + 1)) 34
          rw [List.length_drop] at hlt2
          have HNO := Lib.hid (skp_no (l.drop (a + 1)) (a + 1) a)
          have HYES := Lib.hid (skp_yes (l.drop (a + 1)) (a + 1) a)
          obtain ⟨ix2, hix2⟩ : ∃ ix, ix = Lib.indexByte (l.drop (a + 1)) 34 := ⟨_, rfl⟩
          rw [← hix2] at HNO HYES hge hlt2
          have HIX2 := Lib.hid hix2
          clear hix2
          subst h34
          go_wp2_with fail
          refine (Tryz.strings_IndexByte (str (l.drop (a + 1))) _ _).mono ?_
          rw [show Lib.indexByte (str (l.drop (a + 1))).data.toList (Int.toNat 34).toUInt8 = ix2 from HIX2.out.symm]
          rintro e w5 ⟨rfl, rfl⟩
          by_cases hneg : ix2 < 0
          · have HX := Lib.hid (show skp l 0 none = (a, false) by rw [HSK.out]; exact HNO.out (by omega))
            go_wp2_with fail
            go_ret2
            rw [HX.out]
            exact ⟨rfl, rfl⟩
          · obtain ⟨n, rfl⟩ : ∃ n : Nat, ix2 = n := ⟨ix2.toNat, by omega⟩
            have HX := Lib.hid (show skp l 0 none = skp (l.drop (a + (n + 2))) (a + (n + 2)) none by
              rw [HSK.out, HYES.out n rfl, List.drop_drop]
              congr 1
              · congr 1
                omega
              · omega)
            go_wp2_with fail
            refine ⟨⟨a + (n + 2), ?_, ⟨by omega, HX.out⟩, trivial⟩, ?_⟩
            · simp <;> omega
            · simp [intOf]
              omega
        · have hne : ((c.toNat : Int) == 34) = false := ne_of_u8 h34
          have HX := Lib.hid (show skp l 0 none = (a, true) by rw [HST.out.eq, HD.out, skp, HBL.out, if_neg h34]; rfl)
          clear h34
          go_wp2_with fail
          go_ret2
          rw [HX.out]
          exact ⟨rfl, rfl⟩
      · rw [hbl] at hix
        have hlt : 0 ≤ Lib.indexByte (str blankL).data.toList c := hix.2 rfl
        have HX := Lib.hid (show skp l 0 none = skp (l.drop (a + 1)) (a + 1) none by rw [HST.out.eq, HD.out, skp, hbl]; rfl)
        clear hbl hix
        go_wp2_with fail
        refine (Tryz.strings_IndexByte (str blankL) _ _).mono ?_
        rw [u8_back]
        rintro e w4 ⟨rfl, rfl⟩
        obtain ⟨ix, hix⟩ : ∃ ix, ix = Lib.indexByte (str blankL).data.toList c := ⟨_, rfl⟩
        rw [← hix] at hlt ⊢
        clear hix
        go_wp2_with fail
        refine ⟨⟨a + 1, ?_, ⟨hi, HX.out⟩, trivial⟩, ?_⟩
        · simp <;> omega
        · simp [intOf]
          omega
    · have HX := Lib.hid (show skp l 0 none = (a, true) by
        have hd : l.drop a = [] := List.drop_eq_nil_of_le (by omega)
        rw [HST.out.eq, hd]
        rfl)
      go_wp2_with fail
      go_ret2
      rw [HX.out]
      exact ⟨rfl, rfl⟩

/-- What stands next: where; the token, and how far it goes; none: neither a token nor the end. -/
def nxtL (d : List UInt8) : Nat × Option (Tok × Nat) :=
  if (skp d 0 none).2 then
    if (d.drop (skp d 0 none).1).isEmpty then ((skp d 0 none).1, some (⟨0, [], 0⟩, 0)) else ((skp d 0 none).1, tokL (d.drop (skp d 0 none).1))
  else ((skp d 0 none).1, none)

theorem skp_le : ∀ (d : List UInt8) (a : Nat) (st : Option Nat), (∀ s, st = some s → s ≤ a) → (skp d a st).1 ≤ a + d.length
  | [], a, none, _ => Nat.le_refl _
  | [], a, some s, h => h s rfl
  | c :: r, a, none, _ => by
    rw [skp]
    split
    · have := skp_le r (a + 1) none (fun s h => by cases h)
      simp
      omega
    · split
      · have := skp_le r (a + 1) (some a) (fun s h => by cases h; omega)
        simp
        omega
      · simp
  | c :: r, a, some s, h => by
    rw [skp]
    split
    · have := skp_le r (a + 1) none (fun s h => by cases h)
      simp
      omega
    · have := skp_le r (a + 1) (some s) (fun s' h' => by cases h'; have := h s rfl; omega)
      simp
      omega

theorem tokL_len {l : List UInt8} {t : Tok} {k : Nat} (h : tokL l = some (t, k)) : 1 ≤ k ∧ k ≤ l.length ∧ 1 ≤ t.kind := by
  have hw := runL_le wrdB l
  have hd := runL_le digB l
  have hb := runL_le binB l
  cases l with
  | nil => cases h
  | cons c r =>
    have hwp : letB c = true → 0 < runL wrdB (c :: r) := fun hc => by rw [runL, if_pos (let_wrd hc)]; omega
    have hdp : digB c = true → 0 < runL digB (c :: r) := fun hc => by rw [runL, if_pos hc]; omega
    rw [tokL] at h
    split at h
    · rename_i hc
      have := hwp hc
      split at h
      · cases h
      · split at h
        · rename_i hk
          injection h with h
          injection h with h1 h2
          subst h1 h2
          unfold kwB at hk
          simp at hk
          have := (List.getElem?_eq_some_iff.1 hk.1).1
          exact ⟨by omega, this, by simp⟩
        · injection h with h
          injection h with h1 h2
          subst h1 h2
          exact ⟨this, hw, by simp⟩
    · split at h
      · rename_i hc
        have := hdp hc
        split at h
        · cases h
        · injection h with h
          injection h with h1 h2
          subst h1 h2
          exact ⟨this, hd, by simp⟩
      · split at h
        · rcases hx : txtL r with _ | ⟨t', k'⟩
          · rw [hx] at h; cases h
          · rw [hx] at h
            injection h with h
            injection h with h1 h2
            subst h1 h2
            have := txtL_le r.length r (Nat.le_refl _) hx
            simp
            omega
        · split at h
          · split at h
            · cases h
            · injection h with h
              injection h with h1 h2
              subst h1 h2
              have := symTo_le r r.length
              unfold symL
              simp
              omega
          · split at h
            · rename_i hc
              injection h with h
              injection h with h1 h2
              subst h1 h2
              have := (List.getElem?_eq_some_iff.1 hc.2).1
              simp
              omega
            · split at h
              · injection h with h
                injection h with h1 h2
                subst h1 h2
                simp
              · split at h
                · cases h
                · injection h with h
                  injection h with h1 h2
                  subst h1 h2
                  exact ⟨by omega, by omega, by simp⟩

theorem results_cell_tmp2 {fn : Func} {p u v : Tmp} {ty : TypeId} (h : fn.results = #[.cell p ty, .tmp u, .tmp v]) (tmps : Array Value) (P : Program) (w : World) :
    (results fn tmps).run P w =
      ((asAddr (tmps.getD p undef)).run P w).andThen fun a w₁ => ((loadVar ty a).run P w₁).andThen fun x w₂ => .ok (.tuple #[x, tmps.getD u undef, tmps.getD v undef]) w₂ := by
  simp only [results, h]
  simp [Sem.run_bind, Result.andThen]

def NxtRes (l : List UInt8) (a : Nat) (w : World) (e : Ending) (w' : World) : Prop :=
  ∃ t k, e = .returned (.tuple #[tokV t (a + (nxtL (l.drop a)).1), .int .i64 (a + (nxtL (l.drop a)).1 + k : Nat), .bool (nxtL (l.drop a)).2.isSome]) ∧ (∀ x, (nxtL (l.drop a)).2 = some x → x = (t, k)) ∧ Mod Nil w w'

theorem nxt_end {l : List UInt8} {a : Nat} {w w3 : World} {ac : Act} {cs : Array Value} (hb : Blk w3 w.heap.size 32 cs) (hs : cs.size = 4) (hm : Mod Nil w w3) (t : Tok) (k at_ : Nat) (hat : at_ = a + (nxtL (l.drop a)).1) (hc : ∀ x, (nxtL (l.drop a)).2 = some x → x = (t, k))
    (hp : ac.tmps.getD 4 undef = .pointer (some ⟨w.heap.size, 0, none⟩)) (h5 : ac.tmps.getD 5 undef = .int .i64 (at_ + k : Nat)) (h6 : ac.tmps.getD 6 undef = .bool (nxtL (l.drop a)).2.isSome) (hd : ac.defers = []) :
    bodyPost Tryz.prog Tryz.f35 (fun e w' => NxtRes l a w e w') .ret ac (tokSet w3 w.heap.size t at_) := by
  subst hat
  refine bodyPost_ret (v := .tuple #[tokV t (a + (nxtL (l.drop a)).1), .int .i64 (a + (nxtL (l.drop a)).1 + k : Nat), .bool (nxtL (l.drop a)).2.isSome]) ?_ hd ⟨t, k, rfl, hc, tokSet_mod hm (.inr (Nat.le_refl _)) t _⟩
  rw [results_cell_tmp2 rfl, hp]
  have := tok_load (tokSet_blk hb hs t (a + (nxtL (l.drop a)).1)) rfl
  simp [asAddr, Result.andThen, this, h5, h6, tokV]

set_option maxHeartbeats 1600000 in
set_option maxRecDepth 100000 in
theorem scNext_any (l : List UInt8) (a : Nat) (hl : l.length ≤ 5000) (ha : a ≤ l.length) (w : World) : Calls Tryz.prog 35 #[.string (str l), .int .i64 a] w fun e w' => NxtRes l a w e w' := by
  have hsz := str_size l
  have he := str_drop l a
  have hdl : (l.drop a).length = l.length - a := List.length_drop
  have HSK := Lib.hid (fun w => scSkip_any (l.drop a) (by omega) w)
  have hle := skp_le (l.drop a) 0 none (fun s h => by cases h)
  obtain ⟨n, hn⟩ : ∃ n, n = (skp (l.drop a) 0 none).1 := ⟨_, rfl⟩
  obtain ⟨ok, hok⟩ : ∃ ok, ok = (skp (l.drop a) 0 none).2 := ⟨_, rfl⟩
  have HNX := Lib.hid (show nxtL (l.drop a) = if ok then if ((l.drop a).drop n).isEmpty then (n, some (⟨0, [], 0⟩, 0)) else (n, tokL ((l.drop a).drop n)) else (n, none) by rw [hok, hn]; rfl)
  rw [← hn, ← hok] at HSK
  rw [← hn] at hle
  have hnb : a + n ≤ l.length := by omega
  have he2 : (str l).extract (a + n) l.length = str (l.drop (a + n)) := str_drop l (a + n)
  clear hn hok
  go_enter Tryz.func35, Tryz.ntmps35
  go_wp2_with fail
  have hb : Blk (w.alloc (.cells #[.int .i64 0, .string ⟨#[]⟩, .int .i64 0, .int .i64 0] 32)) w.heap.size 32 tok0 := Blk.new w _ _
  have HM0 := Lib.hid ((Mod.refl Nil w).alloc (.cells #[.int .i64 0, .string ⟨#[]⟩, .int .i64 0, .int .i64 0] 32))
  have HB0 := Lib.hid hb
  clear hb
  generalize hW : World.alloc w (.cells #[.int .i64 0, .string ⟨#[]⟩, .int .i64 0, .int .i64 0] 32) = W at HM0 HB0 ⊢
  clear hW
  refine (HSK.out _).mono ?_
  rintro e w2 ⟨rfl, rfl⟩
  rcases ok with _ | _
  · have HX := Lib.hid (show nxtL (l.drop a) = (n, none) from HNX.out)
    obtain ⟨hk0, hk1, hk2, hk3, hf0, hf1, hf2, hf3⟩ := tok_facts HB0.out
    go_wp2_with fail
    try simp only [Exit.inBlock, Exit.then]
    exact nxt_end HB0.out rfl HM0.out ⟨0, [], 0⟩ 0 (a + n) (by rw [HX.out]) (fun x h => by rw [HX.out] at h; cases h) rfl rfl (by rw [HX.out]; rfl) rfl
  · by_cases hend : a + n = l.length
    · have HX := Lib.hid (show nxtL (l.drop a) = (n, some (⟨0, [], 0⟩, 0)) by
        have : (l.drop a).drop n = [] := by rw [List.drop_drop]; exact List.drop_eq_nil_of_le (by omega)
        rw [HNX.out, this]
        rfl)
      have heq : ((a : Int) + (n : Int) == (l.length : Int)) = true := by simp; omega
      obtain ⟨hk0, hk1, hk2, hk3, hf0, hf1, hf2, hf3⟩ := tok_facts HB0.out
      go_wp2_with fail
      try simp only [Exit.inBlock, Exit.then]
      exact nxt_end HB0.out rfl HM0.out ⟨0, [], 0⟩ 0 (a + n) (by rw [HX.out]) (fun x h => by rw [HX.out] at h; cases h; rfl) rfl rfl (by rw [HX.out]; rfl) rfl
    · have heq : ((a : Int) + (n : Int) == (l.length : Int)) = false := by simp; omega
      have HX := Lib.hid (show nxtL (l.drop a) = (n, tokL (l.drop (a + n))) by
        have : ((l.drop a).drop n).isEmpty = false := by
          rw [List.isEmpty_eq_false_iff]
          intro h0
          have := congrArg List.length h0
          rw [List.length_drop, List.length_drop] at this
          simp at this
          omega
        rw [HNX.out, this, List.drop_drop]
        rfl)
      have HTK := Lib.hid (scToken_any (l.drop (a + n)) (by rw [List.length_drop]; omega) (by rw [List.length_drop]; omega) W)
      clear hend
      go_wp2_with fail
      refine HTK.out.mono ?_
      rintro e w3 ⟨t, k, rfl, hc, hm⟩
      have hbn : Blk w3 w.heap.size 32 tok0 := HB0.out.keep hm id
      have HC := Lib.hid hc
      have HM := Lib.hid (HM0.out.trans hm)
      clear hc hm
      have hbw := hbn.alloc (.cells #[.int .i64 t.kind, .string (str t.text), .int .i64 t.n, .int .i64 ((a : Int) + (n : Int))] 32)
      obtain ⟨hk0, hk1, hk2, hk3, hf0, hf1, hf2, hf3⟩ := tok_facts hbw
      have HB := Lib.hid hbw
      have HMW := Lib.hid (HM.out.alloc (.cells #[.int .i64 t.kind, .string (str t.text), .int .i64 t.n, .int .i64 ((a : Int) + (n : Int))] 32))
      have hkl : k ≤ 5000 := by
        rcases HC.out with ⟨h1, _⟩ | ⟨_, h1⟩
        · have := (tokL_len h1).2.1
          rw [List.length_drop] at this
          omega
        · omega
      clear hbn hbw
      simp only [tokV]
      go_wp2_with fail
      try simp only [Exit.inBlock, Exit.then]
      have hkd : (nxtL (l.drop a)).2.isSome = decide (0 < k) := by
        rw [HX.out]
        rcases HC.out with ⟨h1, h2⟩ | ⟨h1, h2⟩
        · rw [h1]
          simp [h2]
        · rw [h1]
          simp [h2]
      refine nxt_end HB.out rfl HMW.out t k (a + n) (by rw [HX.out]) (fun x h => ?_) rfl (by simp) (by rw [hkd]; rfl) rfl
      rw [HX.out] at h
      rcases HC.out with ⟨h1, h2⟩ | ⟨h1, h2⟩
      · rw [h1] at h
        cases h
        rfl
      · rw [h1] at h
        cases h
end Go.Proofs.YtpjpmlhnhcmacaaGreatDoor
