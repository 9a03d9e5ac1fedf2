/- each: it hands every word on, each scope's once. -/
import Derived.Test.YtpjpmlhnhcmacaaFrdX
import Derived.Outline
import Derived.WalkMore
namespace Go.Proofs.Ytpjpmlhnhcmacaa
open Go.RowKit

set_option maxHeartbeats 12800000 in
set_option maxRecDepth 100000 in
theorem each_any (B g ob : Nat) (v0 : Value) (bs : List (Nat × Nat)) (ss : List Scp) (fs : List Frm) (w : World) (h : WSt B w g bs ss fs) (ho : OutIs B w ob v0 []) (hB : B ≤ w.heap.size) :
    Calls Try.prog 25 #[.pointer (some ⟨g, 0, none⟩), wordFn ob] w (EachPost B ob (frW ss fs []).1 w) := by
  have hmm : ∀ (t : TypeId) (w : World), (Instr.makeMap t none).run Try.prog w = .ok (.map (some w.heap.size)) (w.alloc (.map #[] 0)) := fun _ _ => rfl
  have H := Lib.hid h
  have hfe := h.few
  obtain ⟨frs, A, c, hfl, hc0, hrd, hfr⟩ := h.top
  obtain ⟨B0, hsc⟩ := h.sc
  have HACY := Lib.hid hsc.acy
  have HFR := Lib.hid hfr
  have HRD := Lib.hid hrd
  have HFL := Lib.hid hfl
  have HFE := Lib.hid hfe
  obtain ⟨cs, hcs⟩ : ∃ cs, cs = bs.map (·.1) := ⟨_, rfl⟩
  have HND := Lib.hid (show cs.Nodup by rw [hcs]; exact hsc.nd1)
  have HCL := Lib.hid (show cs.length = ss.length by rw [hcs, List.length_map]; exact hsc.len)
  have HCS := Lib.hid hcs
  have hn40 : fs.length ≤ 40 := hfe.1
  have hgl : g < w.heap.size := Nat.lt_of_lt_of_le h.glt hB
  have HEA := Lib.hid (show EachAt B w ob w.heap.size cs [] [] (w.alloc (.map #[] 0)) from ⟨⟨v0, ho.keep (((Mod.refl Nil w)).alloc _) (fun _ _ => id)⟩, set_new w, (Mod.refl _ w).alloc _⟩)
  have HV := Lib.hid (varsOf_len hfe.2.2.1)
  have HLEN := Lib.hid (fun k => frW_len hsc.acy (varsOf_len hfe.2.2.1) hfe.2.1 (fs.take k) [] (fun f hf => h.val f (List.mem_of_mem_take hf)) (fun f hf => hfe.2.2.2 f (List.mem_of_mem_take hf)))
  have HIN := Lib.hid (fun k => frW_in hsc.acy (fs.take k) [] (fun j hj => by simp at hj) (fun f hf => h.val f (List.mem_of_mem_take hf)))
  clear h ho hfl hrd hfr hfe hcs hsc
  unfold wordFn
  go_enter Try.func25, Try.ntmps25
  go_wp2_with fail
  go_loopw [18] (fun iv wr => ∃ (k : Nat), k ≤ fs.length ∧ iv = .int .i64 k ∧ EachAt B w ob w.heap.size cs (frW ss (fs.take k) []).1 (frW ss (fs.take k) []).2 wr) (fun v _ => fs.length - (intOf v).toNat)
  case atStart => exact ⟨0, Nat.zero_le _, rfl, HEA.out⟩
  case round =>
    obtain ⟨k, hk, rfl, hea⟩ := hrel
    have HE := Lib.hid hea
    clear hea
    by_cases hlt : k < fs.length
    · obtain ⟨a, ha⟩ : ∃ a, fs[k]? = some a := ⟨_, List.getElem?_eq_getElem hlt⟩
      obtain ⟨f, hf⟩ : ∃ f, frs[k]? = some f := ⟨_, List.getElem?_eq_getElem (by rw [HFL.out]; exact hlt)⟩
      have hrf := HFR.out k f a hf ha
      rw [← HCS.out] at hrf
      have HRF := Lib.hid hrf
      have hcell : (frs.map fun f => Value.pointer (some ⟨f, 0, none⟩))[k]? = some (.pointer (some ⟨f, 0, none⟩)) := by rw [List.getElem?_map, hf]; rfl
      obtain ⟨ad, rfl, hadB, hadl, hcel⟩ := HRD.out.at_ hcell
      have HKC := Lib.hid (show ∀ wx, Mod (fun k => B ≤ k) w wx → wx.cell? (ad.add k) = some (.pointer (some ⟨f, 0, none⟩)) from fun wx hm => (hm.cell (by rw [block_of_add]; exact hadl) (by rw [block_of_add]; omega)).trans hcel)
      have HKF := Lib.hid (show ∀ wx, Mod (fun k => B ≤ k) w wx → RdFr B wx cs f a from fun wx hm => hrf.keep hB hm)
      have hc1 := HKC.out _ HE.out.2.2
      have hw1 := HKF.out _ HE.out.2.2
      obtain ⟨hfB, hself, hscp, As, csk, hstk, hsrd⟩ := hw1
      obtain ⟨v, hov⟩ := HE.out.1
      have HOV := Lib.hid hov
      have hst20 := HFE.out.2.2.2 a (List.mem_of_getElem? ha)
      have hscl := H.out.val a (List.mem_of_getElem? ha)
      obtain ⟨X, hX⟩ : ∃ X, X = (frW ss (fs.take k) []).1 := ⟨_, rfl⟩
      obtain ⟨SN, hSN⟩ : ∃ SN, SN = (frW ss (fs.take k) []).2 := ⟨_, rfl⟩
      have HFW := Lib.hid (show frW ss (fs.take (k + 1)) [] = (X ++ (a.self :: a.stack) ++ (scW ss a.sc SN).1, (scW ss a.sc SN).2) by rw [frW_take ss fs k a ha, ← hX, ← hSN])
      have hXl := HLEN.out k
      have hSI := HIN.out k
      rw [← hX] at hXl
      rw [← hSN] at hSI
      rw [← hX, ← hSN] at HE
      rw [← hX] at HOV
      have hXb : X.length ≤ 480840 := by rw [List.length_take] at hXl; omega
      have HXB := Lib.hid hXb
      have HSI := Lib.hid hSI
      have HSL := Lib.hid hscl
      have HSR := Lib.hid (show Rd (fun k => k < B) w As (a.stack.map wv) ∧ ∀ wx, Mod (fun k => B ≤ k) w wx → ∃ A c, wx.cell? ⟨f, 9, none⟩ = some (.slice A a.stack.length c) ∧ Rd (fun k => k < B) wx A (a.stack.map wv) from ⟨by
        obtain ⟨A', c', h1, h2⟩ := HRF.out.stk
        have := (HE.out.2.2.cell (p := ⟨f, 9, none⟩) (Nat.lt_of_lt_of_le hfB hB) (by simp; omega)).trans h1
        rw [hstk] at this
        injection this with this
        injection this with e1 _ _
        rw [e1]; exact h2, fun wx hm => (HKF.out wx hm).stk⟩)
      have HSTK := Lib.hid (show ∀ wx, Mod (fun k => B ≤ k) w wx → wx.cell? ⟨f, 9, none⟩ = some (.slice As a.stack.length csk) from fun wx hm => by
        have h0 := (HE.out.2.2.cell (p := ⟨f, 9, none⟩) (Nat.lt_of_lt_of_le hfB hB) (by simp; omega)).symm.trans hstk
        exact (hm.cell (p := ⟨f, 9, none⟩) (Nat.lt_of_lt_of_le hfB hB) (by simp; omega)).trans h0)
      clear hrf hcell hadl hcel ha hf hov hX hSN hXl hSI hscl hsrd hstk hscp hXb
      go_wp2_with fail
      go_step3
      go_wp2_with fail
      refine (word_any B ob ⟨f, 7, none⟩ v X a.self _ HOV.out (Nat.le_trans hB HE.out.size) hself (by have := HXB.out; omega)).mono ?_
      intro r w1 hp1
      obtain ⟨rfl, he1⟩ := HE.out.word HOV.out hp1
      have HE1 := Lib.hid he1
      have hc9 := HSTK.out _ he1.2.2
      clear hp1 he1 hself
      go_wp2_with fail
      go_loopw [32] (fun iv wr => ∃ (m : Nat), m ≤ a.stack.length ∧ iv = .int .i64 m ∧ EachAt B w ob w.heap.size cs (X ++ (a.self :: a.stack.take m)) SN wr) (fun v _ => a.stack.length - (intOf v).toNat)
      case atStart => exact ⟨0, Nat.zero_le _, rfl, HE1.out⟩
      case round =>
        obtain ⟨m, hm, rfl, hea⟩ := hrel
        have HE2 := Lib.hid hea
        clear hea hc9
        have hc9 := HSTK.out _ HE2.out.2.2
        by_cases hml : m < a.stack.length
        · obtain ⟨x, hx⟩ : ∃ x, a.stack[m]? = some x := ⟨_, List.getElem?_eq_getElem hml⟩
          have hcx : (a.stack.map wv)[m]? = some (.int .u64 x) := by rw [List.getElem?_map, hx]; rfl
          obtain ⟨ax, rfl, haxB, _, hxc⟩ := (HSR.out.1.keep HE2.out.2.2 (fun k hk => by omega)).at_ hcx
          obtain ⟨v2, hov⟩ := HE2.out.1
          have HOV2 := Lib.hid hov
          have HTK := Lib.hid (show X ++ (a.self :: a.stack.take m) ++ [x] = X ++ (a.self :: a.stack.take (m + 1)) by rw [List.take_add_one, hx]; simp)
          clear hov hx hcx
          go_wp2_with fail
          refine (word_any B ob (ax.add m) v2 _ x _ HOV2.out (Nat.le_trans hB HE2.out.size) hxc (by simp only [List.length_append, List.length_cons, List.length_take]; have := HXB.out; omega)).mono ?_
          intro r w2 hp2
          obtain ⟨rfl, he2⟩ := HE2.out.word HOV2.out hp2
          rw [HTK.out] at he2
          have HE3 := Lib.hid he2
          clear hp2 he2 hxc
          go_wp2_with fail
          go_roundw
          case rel => exact ⟨m + 1, by omega, by go_num, HE3.out⟩
          case measure => simp [intOf] <;> omega
        · have HTM := Lib.hid (show a.stack.take m = a.stack from List.take_of_length_le (by omega))
          have hc8 := (HKF.out _ HE2.out.2.2).sc
          have hup : ∃ p, upV cs a.sc = .pointer p := by cases a.sc <;> exact ⟨_, rfl⟩
          obtain ⟨p8, hp8⟩ := hup
          rw [hp8] at hc8
          have HP8 := Lib.hid hp8
          clear hp8
          have HE4 := Lib.hid (show EachAt B w ob w.heap.size cs (X ++ (a.self :: a.stack) ++ []) SN wr by have := HE2.out; rw [HTM.out] at this; simpa using this)
          obtain ⟨R1, hR1⟩ : ∃ R1, R1 = (scW ss a.sc SN).1 := ⟨_, rfl⟩
          obtain ⟨R2, hR2⟩ : ∃ R2, R2 = (scW ss a.sc SN).2 := ⟨_, rfl⟩
          have hRl : R1.length ≤ 12000 := by rw [hR1]; exact scW_bd HACY.out HV.out HFE.out.2.1 a.sc SN HSL.out
          rw [← hR1, ← hR2] at HFW
          have HR1 := Lib.hid hR1
          have HR2 := Lib.hid hR2
          clear hR1 hR2
          go_wp2_with fail
          go_step3
          go_wp2_with fail
          go_loopw [8] (fun sv wr => ∃ (k' : Option Nat) (part : List Int) (seen : List Nat), sv = upV cs k' ∧ part ++ (scW ss k' seen).1 = R1 ∧ (scW ss k' seen).2 = R2 ∧ AllIn seen ss.length ∧ (∀ j, k' = some j → j < ss.length) ∧ EachAt B w ob w.heap.size cs (X ++ (a.self :: a.stack) ++ part) seen wr) (fun v _ => scMeas cs v)
          case atStart => exact ⟨a.sc, [], SN, HP8.out.symm, by rw [HR1.out]; rfl, HR2.out.symm, HSI.out, HSL.out, HE4.out⟩
          case round =>
            obtain ⟨k', part, seen, rfl, hp1, hp2, hsn, hk', hea⟩ := hrel
            have HP1 := Lib.hid hp1
            have HP2 := Lib.hid hp2
            have HSN := Lib.hid hsn
            have HK' := Lib.hid hk'
            have HE5 := Lib.hid hea
            have hpl : part.length ≤ 12000 := by rw [← hp1] at hRl; simp at hRl; omega
            clear hp1 hp2 hsn hk' hea hc8 hc9
            cases k' with
            | none =>
              simp only [upV]
              go_wp2_with fail
              rw [Exit.noGoto_normal]
              go_wp2_with fail
              go_roundw
              case rel =>
                refine ⟨k + 1, by omega, by go_num, ?_⟩
                rw [HFW.out]
                have e1 := HP1.out
                have e2 := HP2.out
                rw [scW_none] at e1 e2
                simp at e1 e2
                rw [← e1, ← e2]
                exact HE5.out
              case measure => simp [intOf] <;> omega
            | some j =>
              have hj := HK'.out j rfl
              obtain ⟨s, hs⟩ : ∃ s, ss[j]? = some s := ⟨_, List.getElem?_eq_getElem hj⟩
              obtain ⟨B0', hsc⟩ := (H.out.keep hB HE5.out.2.2).sc
              obtain ⟨q, hq, hb1, hb2, _, _, hgq⟩ := hsc.get hs
              rw [← HCS.out] at hgq hb1
              have hqB := H.out.sclt q.1 ⟨q, List.mem_of_getElem? hq, .inl rfl⟩
              have hqB2 := H.out.sclt q.2 ⟨q, List.mem_of_getElem? hq, .inr rfl⟩
              simp only [upV]
              rw [hgq]
              have HGQ := Lib.hid hgq
              have hvar : varsOf ss j = s.vars := by unfold varsOf; rw [hs]; rfl
              have hue : upOf ss j = s.up := by unfold upOf; rw [hs]; rfl
              have HV2 := Lib.hid hvar
              have HUE := Lib.hid hue
              have hv300 := HFE.out.2.2.1 s (List.mem_of_getElem? hs)
              have HB1 := Lib.hid hb1
              have HB2 := Lib.hid hb2
              have hisq : IsCs wr q.1 := hb1.isCs
              have hall : ∀ x ∈ seen.map (fun j => cs.getD j 0), IsCs wr x := by
                intro x hx
                obtain ⟨i, hi, rfl⟩ := List.mem_map.1 hx
                have hil := HSN.out i hi
                obtain ⟨s', hs'⟩ : ∃ s, ss[i]? = some s := ⟨_, List.getElem?_eq_getElem hil⟩
                obtain ⟨q', _, hb', _, _, _, hg'⟩ := hsc.get hs'
                rw [← HCS.out] at hg'
                rw [hg']
                exact hb'.isCs
              have hlook := run_seen HE5.out.2.1 hisq hall
              have hmem : (decide (q.1 ∈ seen.map fun j => cs.getD j 0)) = decide (j ∈ seen) := by
                rw [← hgq, decide_eq_decide]
                exact seen_mem HND.out (fun i hi => by rw [HCL.out]; exact HSN.out i hi) (by rw [HCL.out]; exact hj)
              rw [hmem] at hlook
              have hupp : ∃ p, upV cs s.up = .pointer p := by cases s.up <;> exact ⟨_, rfl⟩
              obtain ⟨pu, hpu⟩ := hupp
              rw [hpu] at hb1
              have HPU := Lib.hid hpu
              have hcu : wr.cell? ⟨q.1, 1, none⟩ = some (.pointer pu) := hb1.cell 1
              have hcv : wr.cell? ⟨q.1, 0, none⟩ = some (.slice (some ⟨q.2, 0, none⟩) s.vars.length s.vars.length) := hb1.cell 0
              have hql := hb1.lt
              have HALL := Lib.hid hall
              have HISQ := Lib.hid hisq
              have HHS := Lib.hid hs
              have hmeas : scMeas cs (.pointer (some ⟨q.1, 0, none⟩)) = j + 1 := by
                have := scMeas_up HND.out (k := some j) (fun i hi => by rw [HCL.out]; exact HK'.out i hi)
                simp only [upV] at this
                rw [hgq] at this
                exact this
              have hmeas2 : scMeas cs (.pointer pu) < j + 1 := by
                have := scMeas_up HND.out (k := s.up) (fun i hi => by rw [HCL.out]; rw [← hue] at hi; exact Nat.lt_trans (upOf_lt HACY.out hi) hj)
                rw [hpu] at this
                rw [this]
                cases hu : s.up with
                | none => simp [fuelOf]
                | some i => rw [← hue] at hu; have := upOf_lt HACY.out hu; simp [fuelOf]; omega
              have HM1 := Lib.hid hmeas
              have HM2 := Lib.hid hmeas2
              have hvu : ∀ i, upOf ss j = some i → i < ss.length := fun i hi => Nat.lt_trans (upOf_lt HACY.out hi) hj
              have HVU := Lib.hid hvu
              clear hs hq hb1 hb2 hsc hgq hvar hue hisq hall hmem hpu hmeas hmeas2 hvu
              unfold scp at hlook
              by_cases hin : j ∈ seen
              · rw [show decide (j ∈ seen) = true by simp [hin]] at hlook
                have HN := Lib.hid (show scW ss (some j) seen = scW ss (upOf ss j) seen by rw [scW_some HACY.out, if_pos hin])
                have HEN := Lib.hid (HE5.out.keep0 ((Mod.refl Nil wr).alloc (.cells #[] 79)))
                go_wp2_with fail
                go_roundw
                case rel => exact ⟨upOf ss j, part, seen, by rw [HUE.out]; exact HPU.out.symm, by rw [← HN.out]; exact HP1.out, by rw [← HN.out]; exact HP2.out, HSN.out, HVU.out, HEN.out⟩
                case measure => rw [HM1.out]; exact HM2.out
              · rw [show decide (j ∈ seen) = false by simp [hin]] at hlook
                have HN := Lib.hid (show scW ss (some j) seen = (s.vars ++ (scW ss (upOf ss j) (seen ++ [j])).1, (scW ss (upOf ss j) (seen ++ [j])).2) by rw [scW_some HACY.out, if_neg hin, HV2.out])
                have hma : Mod Nil wr (wr.alloc (.cells #[] 79)) := (Mod.refl Nil wr).alloc _
                have hEA := HE5.out.keep0 hma
                have hnq : q.1 ∉ seen.map fun j => cs.getD j 0 := by
                  rw [← HGQ.out, seen_mem HND.out (fun i hi => by rw [HCL.out]; exact HSN.out i hi) (by rw [HCL.out]; exact hj)]
                  exact hin
                obtain ⟨w2, hmu, hset, hmw2⟩ := run_told hEA.2.1 (HISQ.out.keep hma id) (fun x hx => (HALL.out x hx).keep hma id) hnq
                unfold scp at hmu
                have hset2 := hset
                rw [← HGQ.out] at hset2
                have HE6 := Lib.hid (hEA.seen hB hset2 hmw2)
                have hqm : q.1 ≠ w.heap.size ∧ q.2 ≠ w.heap.size := ⟨by omega, by omega⟩
                have hcv2 : w2.cell? ⟨q.1, 0, none⟩ = some (.slice (some ⟨q.2, 0, none⟩) s.vars.length s.vars.length) := ((HB1.out.keep hma id).keep hmw2 hqm.1).cell 0
                have HCQ := Lib.hid (show ∀ wx, Mod (fun k => B ≤ k) w wx → Blk wx q.1 70 #[.slice (some ⟨q.2, 0, none⟩) s.vars.length s.vars.length, .pointer pu] ∧ Blk wx q.2 34 (s.vars.map wv).toArray from fun wx hm => by
                  obtain ⟨B0'', hsc⟩ := (H.out.keep hB hm).sc
                  obtain ⟨q', hq', hb1, hb2, _, _, hgq'⟩ := hsc.get HHS.out
                  have hq0 : q'.1 = q.1 := by rw [← hgq', ← HCS.out]; exact HGQ.out
                  rw [← HCS.out, HPU.out, hq0] at hb1
                  have e0 := HE5.out.2.2
                  obtain ⟨B1, hsc1⟩ := (H.out.keep hB e0).sc
                  obtain ⟨q1, hq1, hc1, hc2, _, _, hgq1⟩ := hsc1.get HHS.out
                  have hqq : q' = q1 := by rw [hq'] at hq1; injection hq1
                  have hx1 := HB1.out
                  have hx2 := hc1
                  rw [← HCS.out] at hx2
                  rw [← hqq, hq0] at hx2
                  unfold Blk at hx1 hx2
                  rw [hx1] at hx2
                  simp at hx2
                  rw [← hx2] at hb1 hb2
                  exact ⟨hb1, hb2⟩)
                clear hma hEA hnq hset hset2 hmw2 hqm
                go_wp2_with fail
                go_loopw [69] (fun iv wr => ∃ (m2 : Nat), m2 ≤ s.vars.length ∧ iv = .int .i64 m2 ∧ EachAt B w ob w.heap.size cs (X ++ (a.self :: a.stack) ++ part ++ s.vars.take m2) (seen ++ [j]) wr) (fun v _ => s.vars.length - (intOf v).toNat)
                case atStart => exact ⟨0, Nat.zero_le _, rfl, by simpa using HE6.out⟩
                case round =>
                  obtain ⟨m2, hm2, rfl, hea⟩ := hrel
                  have HE7 := Lib.hid hea
                  clear hea hcv2 hmu
                  have hbq := HCQ.out _ HE7.out.2.2
                  have hcv3 : wr.cell? ⟨q.1, 0, none⟩ = some (.slice (some ⟨q.2, 0, none⟩) s.vars.length s.vars.length) := hbq.1.cell 0
                  have hcu3 : wr.cell? ⟨q.1, 1, none⟩ = some (.pointer pu) := hbq.1.cell 1
                  by_cases hml2 : m2 < s.vars.length
                  · obtain ⟨x, hx⟩ : ∃ x, s.vars[m2]? = some x := ⟨_, List.getElem?_eq_getElem hml2⟩
                    have hcx : wr.cell? ⟨q.2, m2, none⟩ = some (.int .u64 x) := by
                      rw [hbq.2.cell m2]
                      simp [hx, wv]
                    obtain ⟨v3, hov⟩ := HE7.out.1
                    have HOV3 := Lib.hid hov
                    have HTK := Lib.hid (show X ++ (a.self :: a.stack) ++ part ++ s.vars.take m2 ++ [x] = X ++ (a.self :: a.stack) ++ part ++ s.vars.take (m2 + 1) by rw [List.take_add_one, hx]; simp)
                    clear hbq hx hov
                    go_wp2_with fail
                    refine (word_any B ob ⟨q.2, m2, none⟩ v3 _ x _ HOV3.out (Nat.le_trans hB HE7.out.size) hcx (by simp only [List.length_append, List.length_cons, List.length_take]; have := HXB.out; omega)).mono ?_
                    intro r w3 hp3
                    obtain ⟨rfl, he3⟩ := HE7.out.word HOV3.out hp3
                    rw [HTK.out] at he3
                    have HE8 := Lib.hid he3
                    clear hp3 he3 hcx
                    go_wp2_with fail
                    go_roundw
                    case rel => exact ⟨m2 + 1, by omega, by go_num, HE8.out⟩
                    case measure => simp [intOf] <;> omega
                  · have HE8 := Lib.hid (show EachAt B w ob w.heap.size cs (X ++ (a.self :: a.stack) ++ (part ++ s.vars)) (seen ++ [j]) wr by have := HE7.out; rw [List.take_of_length_le (by omega)] at this; simpa using this)
                    clear hbq
                    go_wp2_with fail
                    go_roundw
                    case rel =>
                      refine ⟨upOf ss j, part ++ s.vars, seen ++ [j], by rw [HUE.out]; exact HPU.out.symm, ?_, ?_, ?_, HVU.out, HE8.out⟩
                      · have := HP1.out; rw [HN.out] at this; simpa using this
                      · have := HP2.out; rw [HN.out] at this; exact this
                      · intro i hi
                        rcases List.mem_append.1 hi with hi | hi
                        · exact HSN.out i hi
                        · simp at hi; omega
                    case measure => rw [HM1.out]; exact HM2.out
    · go_wp2_with fail
      have HT := Lib.hid (show fs.take k = fs from List.take_of_length_le (by omega))
      go_end0
      have := HE.out
      rw [HT.out] at this
      exact ⟨rfl, this.1, this.2.2⟩
end Go.Proofs.Ytpjpmlhnhcmacaa
