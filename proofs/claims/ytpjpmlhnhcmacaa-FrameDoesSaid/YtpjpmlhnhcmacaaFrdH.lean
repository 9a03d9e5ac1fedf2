/- The law FrameDoes: the round, the loop, the law. -/
import Derived.Test.YtpjpmlhnhcmacaaFrdG
namespace Go.Proofs.Ytpjpmlhnhcmacaa
open Go.RowKit

theorem FSP.all_ {i : Nat} {w0 w : World} {d : FD} (h : FSP i w0 w d) (h1 : i ≠ 1) (h2 : i ≠ 2) (h3 : i ≠ 3) (h4 : i ≠ 4) : FSP 0 w0 w d := ⟨fun _ => h.stk h1, fun _ => h.sc h2, fun _ => h.rw h3, fun _ => h.row h4, h.mod, h.frl, h.fr, h.c1, h.c2, h.c3, h.c4, h.val⟩

set_option maxHeartbeats 1600000 in
set_option maxRecDepth 100000 in
/-- The switch and what stands behind it. -/
theorem frdo_switch {Q : Exit → Act → World → Prop} {a : Act} {w w0 : World} {g gm k bd cB : Nat} {d : FD} {dd : Deed} {B : Option Addr} {kk : Option Nat} {v0 v6 : Value}
    (HF : Sl 344 [(0, v0), (3, .pointer (some ⟨g, 0, none⟩)), (4, .pointer (some ⟨gm, 0, none⟩)), (5, d.sv), (6, v6), (7, .pointer (some ⟨bd, 0, none⟩)), (8, .int .i64 (upI kk)), (9, upV (d.bs.map (·.1)) kk), (10, .int .i64 (upI (outI d.ss kk dd.n))), (11, .bool (outVar d.ss (outI d.ss kk dd.n) dd.i).isSome)] a)
    (hst : ArmSt w0 w g gm k d bd dd B cB kk)
    (hQ : ∀ a' w' sv', Sl 344 [(0, v0), (3, .pointer (some ⟨g, 0, none⟩)), (4, .pointer (some ⟨gm, 0, none⟩)), (5, sv'), (6, v6)] a' → DoSt w0 g gm (k + 1) sv' w' → Q .normal a' w') :
    (part [1, 1, 1, 1, 1, 0, 1, 0, 0, 1, 0, 0, 1, 1, 1, 1, 1, 1] doBody).wp Try.prog Q a w := by
  have hc0 := hst.blk.cell 0
  have HC0 := Lib.hid hc0
  have hB : ∀ a' w' sv', Sl 344 [(0, v0), (3, .pointer (some ⟨g, 0, none⟩)), (4, .pointer (some ⟨gm, 0, none⟩)), (5, sv'), (6, v6)] a' → DoSt w0 g gm (k + 1) sv' w' → (part [1, 1, 1, 1, 1, 0, 1, 0, 0, 1, 0, 0, 1, 1, 1, 1, 1, 1, 1] doBody).wp Try.prog Q a' w' := by
    intro a' w' sv' h1 h2
    have h2' := h2
    obtain ⟨d2, h3⟩ := h2
    have hk40 := hst.k40
    refine frdo_end1 h1 (h3.endSt (by omega)) fun a2 w2 h4 h5 => ?_
    refine frdo_end2 h4 ((h3.endSt (by omega)).keep h5) fun a3 w3 h6 h7 => ?_
    exact hQ _ _ _ h6 ((h2'.keep h5).keep h7)
  have HB := Lib.hid hB
  have HST := Lib.hid hst
  clear hst hQ hB hc0
  conv => arg 2; whnf
  refine wp_seq (wp_seq (wp_region_lit ?_))
  refine sl_op HF rfl rfl (by decide) ?_; intro K hK; have e7 := HF.see 7 rfl; go_wp2_with fail; clear e7 HF; intro _ HF
  refine sl_op HF rfl rfl (by decide) ?_; intro K hK; have e85 := HF.see 85 rfl
  have hcx := HC0.out
  go_wp2_with fail
  clear e85 HF hcx
  intro _ HF
  refine sl_nil (wp_block ?_)
  by_cases hk0 : dd.kind = 0
  · have hkb : (dd.kind == 0) = true := by simp [hk0]
    refine wp_seq (wp_region_lit ?_)
    have HK := Lib.hid hk0
    clear hk0
    refine sl_op HF rfl rfl (by decide) ?_; intro K hK; have e86 := HF.see 86 rfl; go_wp2_with fail; clear e86 HF; intro _ HF
    refine sl_move HF rfl rfl (.inr rfl) (by decide) rfl ?_; clear HF; intro _ HF
    refine sl_nil (wp_cond_true (HF.at 126 rfl) ?_)
    exact frdo_arm0 HK.out (HF.keep [0, 3, 4, 5, 6, 7, 8, 9, 10, 11]) HST.out (fun a' w' sv' h1 h2 => HB.out a' w' sv' h1 h2)
  have hkb : (dd.kind == 0) = false := by simp [hk0]
  refine wp_seq (wp_region_lit ?_)
  clear hk0
  refine sl_op HF rfl rfl (by decide) ?_; intro K hK; have e86 := HF.see 86 rfl; go_wp2_with fail; clear e86 HF; intro _ HF
  refine sl_move HF rfl rfl (.inr rfl) (by decide) rfl ?_; clear HF; intro _ HF
  refine sl_nil (wp_cond_false (HF.at 126 rfl) ?_)
  clear hkb
  by_cases hk0 : dd.kind = 1
  · have hkb : (dd.kind == 1) = true := by simp [hk0]
    refine wp_seq (wp_region_lit ?_)
    clear hk0
    refine sl_op HF rfl rfl (by decide) ?_; intro K hK; have e86 := HF.see 86 rfl; go_wp2_with fail; clear e86 HF; intro _ HF
    refine sl_move HF rfl rfl (.inr rfl) (by decide) rfl ?_; clear HF; intro _ HF
    refine sl_nil (wp_cond_true (HF.at 150 rfl) ?_)
    exact frdo_arm1 rfl (HF.keep [0, 3, 4, 5, 6, 7, 8, 9, 10, 11]) HST.out (fun a' w' sv' h1 h2 => HB.out a' w' sv' h1 h2)
  have hkb : (dd.kind == 1) = false := by simp [hk0]
  refine wp_seq (wp_region_lit ?_)
  clear hk0
  refine sl_op HF rfl rfl (by decide) ?_; intro K hK; have e86 := HF.see 86 rfl; go_wp2_with fail; clear e86 HF; intro _ HF
  refine sl_move HF rfl rfl (.inr rfl) (by decide) rfl ?_; clear HF; intro _ HF
  refine sl_nil (wp_cond_false (HF.at 150 rfl) ?_)
  clear hkb
  by_cases hk0 : dd.kind = 2
  · have hkb : (dd.kind == 2) = true := by simp [hk0]
    refine wp_seq (wp_region_lit ?_)
    clear hk0
    refine sl_op HF rfl rfl (by decide) ?_; intro K hK; have e86 := HF.see 86 rfl; go_wp2_with fail; clear e86 HF; intro _ HF
    refine sl_move HF rfl rfl (.inr rfl) (by decide) rfl ?_; clear HF; intro _ HF
    refine sl_nil (wp_cond_true (HF.at 176 rfl) ?_)
    exact frdo_arm2 (HF.keep [0, 3, 4, 5, 6, 7, 8, 9, 10, 11]) HST.out (fun a' w' sv' h1 h2 => HB.out a' w' sv' h1 h2)
  have hkb : (dd.kind == 2) = false := by simp [hk0]
  refine wp_seq (wp_region_lit ?_)
  clear hk0
  refine sl_op HF rfl rfl (by decide) ?_; intro K hK; have e86 := HF.see 86 rfl; go_wp2_with fail; clear e86 HF; intro _ HF
  refine sl_move HF rfl rfl (.inr rfl) (by decide) rfl ?_; clear HF; intro _ HF
  refine sl_nil (wp_cond_false (HF.at 176 rfl) ?_)
  clear hkb
  by_cases hk0 : dd.kind = 3
  · have hkb : (dd.kind == 3) = true := by simp [hk0]
    refine wp_seq (wp_region_lit ?_)
    clear hk0
    refine sl_op HF rfl rfl (by decide) ?_; intro K hK; have e86 := HF.see 86 rfl; go_wp2_with fail; clear e86 HF; intro _ HF
    refine sl_move HF rfl rfl (.inr rfl) (by decide) rfl ?_; clear HF; intro _ HF
    refine sl_nil (wp_cond_true (HF.at 216 rfl) ?_)
    exact frdo_arm3 (HF.keep [0, 3, 4, 5, 6, 7, 8, 9, 10, 11]) HST.out (fun a' w' sv' h1 h2 => HB.out a' w' sv' h1 h2)
  have hkb : (dd.kind == 3) = false := by simp [hk0]
  refine wp_seq (wp_region_lit ?_)
  clear hk0
  refine sl_op HF rfl rfl (by decide) ?_; intro K hK; have e86 := HF.see 86 rfl; go_wp2_with fail; clear e86 HF; intro _ HF
  refine sl_move HF rfl rfl (.inr rfl) (by decide) rfl ?_; clear HF; intro _ HF
  refine sl_nil (wp_cond_false (HF.at 216 rfl) ?_)
  clear hkb
  by_cases hk0 : dd.kind = 4
  · have hkb : (dd.kind == 4) = true := by simp [hk0]
    refine wp_seq (wp_region_lit ?_)
    clear hk0
    refine sl_op HF rfl rfl (by decide) ?_; intro K hK; have e86 := HF.see 86 rfl; go_wp2_with fail; clear e86 HF; intro _ HF
    refine sl_move HF rfl rfl (.inr rfl) (by decide) rfl ?_; clear HF; intro _ HF
    refine sl_nil (wp_cond_true (HF.at 242 rfl) ?_)
    exact frdo_arm4 (HF.keep [0, 3, 4, 5, 6, 7, 8, 9, 10, 11]) HST.out (fun a' w' sv' h1 h2 => HB.out a' w' sv' h1 h2)
  have hkb : (dd.kind == 4) = false := by simp [hk0]
  refine wp_seq (wp_region_lit ?_)
  clear hk0
  refine sl_op HF rfl rfl (by decide) ?_; intro K hK; have e86 := HF.see 86 rfl; go_wp2_with fail; clear e86 HF; intro _ HF
  refine sl_move HF rfl rfl (.inr rfl) (by decide) rfl ?_; clear HF; intro _ HF
  refine sl_nil (wp_cond_false (HF.at 242 rfl) ?_)
  clear hkb
  exact frdo_arm5 rfl (HF.keep [0, 3, 4, 5, 6, 7, 8, 9, 10, 11]) HST.out (fun a' w' sv' h1 h2 => HB.out a' w' sv' h1 h2)

set_option maxHeartbeats 3200000 in
set_option maxRecDepth 100000 in
/-- A round, from the scope on. -/
theorem frdo_kc {Q : Exit → Act → World → Prop} {a : Act} {w w0 : World} {g gm k bd cB : Nat} {d : FD} {dd : Deed} {B : Option Addr} {v0 v6 : Value}
    (HF : Sl 344 [(0, v0), (3, .pointer (some ⟨g, 0, none⟩)), (4, .pointer (some ⟨gm, 0, none⟩)), (5, d.sv), (6, v6), (7, .pointer (some ⟨bd, 0, none⟩)), (8, .int .i64 (-1)), (9, .pointer none)] a)
    (hst : ∀ kk, (∀ j, kk = some j → j < d.ss.length) → ArmSt w0 w g gm k d bd dd B cB kk)
    (hQ : ∀ a' w' sv', Sl 344 [(0, v0), (3, .pointer (some ⟨g, 0, none⟩)), (4, .pointer (some ⟨gm, 0, none⟩)), (5, sv'), (6, v6)] a' → DoSt w0 g gm (k + 1) sv' w' → Q .normal a' w') :
    (part [1, 1, 1, 1, 1, 0, 1, 0, 0, 1, 0, 0, 1, 1, 1] doBody).wp Try.prog Q a w := by
  have HST := Lib.hid hst
  have hst0 := hst none (fun j hj => by cases hj)
  have hgo : ∀ kk a', (∀ j, kk = some j → j < d.ss.length) → Sl 344 [(0, v0), (3, .pointer (some ⟨g, 0, none⟩)), (4, .pointer (some ⟨gm, 0, none⟩)), (5, d.sv), (6, v6), (7, .pointer (some ⟨bd, 0, none⟩)), (8, .int .i64 (upI kk)), (9, upV (d.bs.map (·.1)) kk)] a' → (part [1, 1, 1, 1, 1, 0, 1, 0, 0, 1, 0, 0, 1, 1, 1, 1] doBody).wp Try.prog Q a' w := by
    intro kk a' hkk h1
    have hok := hst0.ok
    have hk40 := hst0.k40
    refine frdo_out h1 hst0.blk hok.st hok.gm (by rw [hok.sd]; exact hkk) (by rw [hok.sd]; have := hok.f2; omega) hst0.nhi fun a2 h2 => ?_
    rw [hok.sd] at h2
    exact frdo_switch h2 ((hst kk hkk).keep ((Mod.refl Nil w).drew)) hQ
  have HGO := Lib.hid hgo
  have hc2 := hst0.blk.cell 2
  have hrow := hst0.ok.st.row (by decide)
  obtain ⟨As, cs, hsv, _, _⟩ := own_slice hrow
  obtain ⟨ns, hns⟩ : ∃ ns, d.cs.length = ns := ⟨_, rfl⟩
  have hlen : ns = d.ss.length := by rw [← hns, hst0.ok.cs, List.length_map]; exact (hst0.ok.st.sc (by decide)).len
  have hns40 : ns ≤ 40 := by rw [hlen]; have := hst0.ok.f2; have := hst0.k40; omega
  rw [hns] at hsv hrow
  have hcs := hst0.ok.cs
  rw [hsv] at hrow HF
  have HSV := Lib.hid hsv
  have HR := Lib.hid (Rd.of_own hrow)
  have HL := Lib.hid hlen
  have HN := Lib.hid hns
  have HCS := Lib.hid hcs
  clear hst hst0 hgo hrow hsv hns hlen hcs
  have hback : ∀ {L a'}, Sl 344 L a' → Sl 344 L a' := fun h => h
  clear hback
  conv => arg 2; whnf
  rcases Nat.eq_zero_or_pos ns with hn0 | hn0
  · subst hn0
    refine wp_seq (wp_seq (wp_region_lit ?_))
    refine sl_move HF rfl rfl (.inl rfl) (by decide) rfl ?_; clear HF; intro _ HF
    refine sl_op HF rfl rfl (by decide) ?_; intro K hK; have e40 := HF.see 40 rfl; go_wp2_with fail; clear e40 HF; intro _ HF
    refine sl_op HF rfl rfl (by decide) ?_; intro K hK; have e41 := HF.see 41 rfl; go_wp2_with fail; clear e41 HF; intro _ HF
    refine sl_move HF rfl rfl (.inl rfl) (by decide) rfl ?_; clear HF; intro _ HF
    refine sl_skip HF rfl rfl rfl rfl (by decide) ?_; clear HF; intro _ HF
    refine sl_skip HF rfl rfl rfl rfl (by decide) ?_; clear HF; intro _ HF
    refine sl_skip HF rfl rfl rfl rfl (by decide) ?_; clear HF; intro _ HF
    refine sl_op HF rfl rfl (by decide) ?_; intro K hK; have e43 := HF.see 43 rfl; have e46 := HF.see 46 rfl; go_wp2_with fail; clear e43 e46 HF; intro _ HF
    refine sl_nil (wp_cond_false (HF.at 47 rfl) (wp_skip (sl_then ?_)))
    exact HGO.out none _ (fun j hj => by cases hj) (by rw [HSV.out]; exact HF.keep [0, 3, 4, 5, 6, 7, 8, 9])
  · by_cases hm0 : 0 ≤ dd.m
    · obtain ⟨j, hj⟩ : ∃ j : Nat, dd.m % (ns : Int) = j := ⟨(dd.m % (ns : Int)).toNat, by have := Int.emod_nonneg dd.m (show (ns : Int) ≠ 0 by omega); omega⟩
      have hjn : j < ns := by have := Int.emod_lt_of_pos dd.m (show (0 : Int) < ns by omega); omega
      have HJ := Lib.hid hj
      have hcj : (d.cs.map scp)[j]? = some (scp (d.cs[j]'(by rw [HN.out]; exact hjn))) := by
        rw [List.getElem?_map, List.getElem?_eq_getElem (by rw [HN.out]; exact hjn)]
        rfl
      obtain ⟨q, hq⟩ : ∃ q, q = d.cs[j]'(by rw [HN.out]; exact hjn) := ⟨_, rfl⟩
      rw [← hq] at hcj
      have HU := Lib.hid (show upV (d.bs.map (·.1)) (some j) = .pointer (some ⟨q, 0, none⟩) by
        rw [hq, ← HCS.out]
        simp [upV, List.getD, List.getElem?_eq_getElem (show j < d.cs.length by rw [HN.out]; exact hjn)])
      have hrst := rest01_any dd.m (ns : Int) w (by omega) (by omega)
      rw [hj] at hrst
      have HRS := Lib.hid hrst
      unfold scp at hcj
      obtain ⟨ad, rfl, _, hadl, hcad⟩ := HR.out.at_ hcj
      clear hj hcj hq hrst
      refine wp_seq (wp_seq (wp_region_lit ?_))
      refine sl_move HF rfl rfl (.inl rfl) (by decide) rfl ?_; clear HF; intro _ HF
      refine sl_op HF rfl rfl (by decide) ?_; intro K hK; have e40 := HF.see 40 rfl; go_wp2_with fail; clear e40 HF; intro _ HF
      refine sl_op HF rfl rfl (by decide) ?_; intro K hK; have e41 := HF.see 41 rfl; go_wp2_with fail; clear e41 HF; intro _ HF
      refine sl_move HF rfl rfl (.inl rfl) (by decide) rfl ?_; clear HF; intro _ HF
      refine sl_want HF rfl rfl rfl rfl (by decide) ?_; intro K hK; have e7 := HF.see 7 rfl; go_wp2_with fail; clear e7 HF; intro _ HF
      refine sl_want HF rfl rfl rfl rfl (by decide) ?_; intro K hK; have e44 := HF.see 44 rfl; go_wp2_with fail; clear e44 HF; intro _ HF
      refine sl_want HF rfl rfl rfl rfl (by decide) ?_; intro K hK; have e45 := HF.see 45 rfl; go_wp2_with fail; clear e45 HF; intro _ HF
      refine sl_op HF rfl rfl (by decide) ?_; intro K hK; have e43 := HF.see 43 rfl; have e46 := HF.see 46 rfl; go_wp2_with fail; clear e43 e46 HF; intro _ HF
      refine sl_nil (wp_cond_true (HF.at 47 rfl) ?_)
      refine wp_seq (wp_region_lit ?_)
      refine sl_op HF rfl rfl (by decide) ?_; intro K hK; have e7 := HF.see 7 rfl; go_wp2_with fail; clear e7 HF; intro _ HF
      refine sl_op HF rfl rfl (by decide) ?_; intro K hK; have e48 := HF.see 48 rfl; go_wp2_with fail; clear e48 HF; intro _ HF
      refine sl_move HF rfl rfl (.inl rfl) (by decide) rfl ?_; clear HF; intro _ HF
      refine sl_op HF rfl rfl (by decide) ?_; intro K hK; have e50 := HF.see 50 rfl; go_wp2_with fail; clear e50 HF; intro _ HF
      refine sl_op HF rfl rfl (by decide) ?_; intro K hK; have e49 := HF.see 49 rfl; have e51 := HF.see 51 rfl; go_wp2_with fail
      refine HRS.out.mono ?_
      rintro r w' ⟨rfl, rfl⟩
      go_wp2_with fail; clear e49 e51 HF; intro _ HF
      refine sl_move HF rfl rfl (.inr rfl) (by decide) rfl ?_; clear HF; intro _ HF
      refine sl_nil (wp_region_lit ?_)
      refine sl_move HF rfl rfl (.inl rfl) (by decide) rfl ?_; clear HF; intro _ HF
      refine sl_move HF rfl rfl (.inl rfl) (by decide) rfl ?_; clear HF; intro _ HF
      refine sl_op HF rfl rfl (by decide) ?_; intro K hK; have e53 := HF.see 53 rfl; have e54 := HF.see 54 rfl; go_wp2_with fail; clear e53 e54 HF; intro _ HF
      refine sl_op HF rfl rfl (by decide) ?_; intro K hK; have e55 := HF.see 55 rfl; go_wp2_with fail; clear e55 HF; intro _ HF
      refine sl_move HF rfl rfl (.inr rfl) (by decide) rfl ?_; clear HF; intro _ HF
      refine wpList_nil (sl_then ?_)
      exact HGO.out (some j) _ (fun i hi => by injection hi with hi; rw [← HL.out, ← hi]; exact hjn) (by rw [HSV.out, HU.out]; exact HF.keep [0, 3, 4, 5, 6, 7, 8, 9])
    · have hmb : decide (0 ≤ dd.m) = false := by simpa using hm0
      clear hm0
      refine wp_seq (wp_seq (wp_region_lit ?_))
      refine sl_move HF rfl rfl (.inl rfl) (by decide) rfl ?_; clear HF; intro _ HF
      refine sl_op HF rfl rfl (by decide) ?_; intro K hK; have e40 := HF.see 40 rfl; go_wp2_with fail; clear e40 HF; intro _ HF
      refine sl_op HF rfl rfl (by decide) ?_; intro K hK; have e41 := HF.see 41 rfl; go_wp2_with fail; clear e41 HF; intro _ HF
      refine sl_move HF rfl rfl (.inl rfl) (by decide) rfl ?_; clear HF; intro _ HF
      refine sl_want HF rfl rfl rfl rfl (by decide) ?_; intro K hK; have e7 := HF.see 7 rfl; go_wp2_with fail; clear e7 HF; intro _ HF
      refine sl_want HF rfl rfl rfl rfl (by decide) ?_; intro K hK; have e44 := HF.see 44 rfl; go_wp2_with fail; clear e44 HF; intro _ HF
      refine sl_want HF rfl rfl rfl rfl (by decide) ?_; intro K hK; have e45 := HF.see 45 rfl; go_wp2_with fail; clear e45 HF; intro _ HF
      refine sl_op HF rfl rfl (by decide) ?_; intro K hK; have e43 := HF.see 43 rfl; have e46 := HF.see 46 rfl; go_wp2_with fail; clear e43 e46 HF; intro _ HF
      refine sl_nil (wp_cond_false (HF.at 47 rfl) (wp_skip (sl_then ?_)))
      exact HGO.out none _ (fun j hj => by cases hj) (by rw [HSV.out]; exact HF.keep [0, 3, 4, 5, 6, 7, 8, 9])

theorem slice_addr {b ofs k : Nat} : ((⟨b, ofs, none⟩ : Addr).add (k * 6)) = ⟨b, ofs + k * 6, none⟩ := by simp [Addr.add]

set_option maxHeartbeats 3200000 in
set_option maxRecDepth 100000 in
/-- A round. -/
theorem frdo_round {Q : Exit → Act → World → Prop} {a : Act} {w w0 : World} {g gm k n cap : Nat} {A : Option Addr} {d : FD} {dd : Deed} {l : List Deed}
    (HF : Sl 344 [(0, .slice A n cap), (3, .pointer (some ⟨g, 0, none⟩)), (4, .pointer (some ⟨gm, 0, none⟩)), (5, d.sv), (6, .int .i64 k)] a)
    (hok : DoOk w0 g gm k d.sv d w) (hl : l.length = n) (hr : DeedsAt (fun b => b < w0.heap.size) w0 A l) (hdd : l[k]? = some dd) (hn40 : n ≤ 40)
    (hsm : dd.l.length ≤ 20 ∧ dd.n ≤ 9223372036854775807 ∧ (dd.kind = 0 → dd.n ≤ 300))
    (hQ : ∀ a' w' sv', Sl 344 [(0, .slice A n cap), (3, .pointer (some ⟨g, 0, none⟩)), (4, .pointer (some ⟨gm, 0, none⟩)), (5, sv'), (6, .int .i64 k)] a' → DoSt w0 g gm (k + 1) sv' w' → Q .normal a' w') :
    (part [1, 1, 1, 1, 1, 0, 1, 0, 0, 1, 0, 0] doBody).wp Try.prog Q a w := by
  have hkn : k < n := by rw [← hl]; exact (List.getElem?_eq_some_iff.1 hdd).1
  obtain ⟨b, ofs, rfl, hbs, hbl, hat⟩ := hr (by omega)
  obtain ⟨h0, h1, h2, h3, h4, B, cB, h5, hl5, hr5⟩ := hat k dd hdd
  have hkc : ∀ o, w.cell? ⟨b, o, none⟩ = w0.cell? ⟨b, o, none⟩ := fun o => hok.st.mod.cell (p := ⟨b, o, none⟩) hbl id
  rw [← hkc] at h0 h1 h2 h3 h4 h5
  have HOK := Lib.hid hok
  have HR5 := Lib.hid hr5
  have HSM := Lib.hid hsm
  have HQ := Lib.hid hQ
  have HD := Lib.hid hdd
  clear hok hr5 hsm hQ hdd hl hat hkc
  conv => arg 2; whnf
  refine wp_seq (wp_region_lit ?_)
  refine sl_move HF rfl rfl (.inl rfl) (by decide) rfl ?_; clear HF; intro _ HF
  refine sl_move HF rfl rfl (.inl rfl) (by decide) rfl ?_; clear HF; intro _ HF
  refine sl_op HF rfl rfl (by decide) ?_; intro K hK; have e36 := HF.see 36 rfl; have e37 := HF.see 37 rfl; go_wp2_with fail; clear e36 e37 HF; intro _ HF
  refine sl_op HF rfl rfl (by decide) ?_; intro K hK; have e38 := HF.see 38 rfl; go_wp2_with fail; clear e38 HF; intro _ HF
  refine sl_op HF rfl rfl (by decide) ?_; intro K hK; go_wp2_with fail; clear HF; intro _ HF
  refine sl_op0 HF rfl rfl ?_; intro K hK; have e7 := HF.see 7 rfl; have e39 := HF.see 39 rfl; go_wp2_with fail; clear e7 e39 HF; intro _ HF
  refine sl_nil (wp_seq (wp_region_lit ?_))
  refine sl_const HF rfl rfl (.inr rfl) (by decide) ?_; clear HF; intro _ HF
  refine sl_nil (wp_seq (wp_region_lit ?_))
  refine sl_const HF rfl rfl (.inr rfl) (by decide) ?_; clear HF; intro _ HF
  refine sl_nil ?_
  obtain ⟨w4, hw4⟩ : ∃ w4, w4 = w.alloc (.cells #[.int .i64 dd.kind, .int .i64 dd.n, .int .i64 dd.m, .int .i64 dd.i, .int .u64 dd.x, .slice B dd.l.length cB] 37) := ⟨_, rfl⟩
  rw [← hw4]
  have hok := HOK.out
  have hm4 : Mod Nil w w4 := by rw [hw4]; exact (Mod.refl Nil w).alloc _
  have hblk : DoBlk w4 w.heap.size dd B cB := by rw [hw4]; exact Blk.new w _ _
  have hst := (hok.st.others hm4 6 (fun _ _ h => h.elim)).all_ (by decide) (by decide) (by decide) (by decide)
  have harm : ∀ kk, (∀ j, kk = some j → j < d.ss.length) → ArmSt w0 w4 g gm k { d with col := nc d.col w.heap.size 6 } w.heap.size dd B cB kk := fun kk hkk =>
    ⟨⟨hst, hok.g, hok.gm, rfl, hok.sd, hok.fl, hok.cs, hok.lst, hok.l0, hok.l1, hok.f1, hok.f2, hok.f3, hok.f4⟩, hblk, nc_of (fun h => absurd h (Nat.lt_irrefl _)), HR5.out, hkk, by omega, HSM.out.1, HSM.out.2.1, HSM.out.2.2⟩
  exact frdo_kc (d := { d with col := nc d.col w.heap.size 6 }) (HF.keep [0, 3, 4, 5, 6, 7, 8, 9]) harm HQ.out

def DoI (w0 : World) (g gm n cap : Nat) (A : Option Addr) (a : Act) (w : World) : Prop :=
  ∃ (k : Nat) (sv : Value), k ≤ n ∧ Sl 344 [(0, .slice A n cap), (3, .pointer (some ⟨g, 0, none⟩)), (4, .pointer (some ⟨gm, 0, none⟩)), (5, sv), (6, .int .i64 k)] a ∧ DoSt w0 g gm k sv w

theorem DoSt.new {w w1 : World} (hm : Mod Nil w w1) : DoSt w w1.heap.size (w1.heap.size + 1) 0 (.slice none 0 0) ((w1.alloc (.cells #[.slice none 0 0, .int .i64 0] 68)).alloc (.cells #[.slice none 0 0, .slice none 0 0, .int .i64 0] 31)) := by
  have hb := hm.size
  have h1 := (stk_new w1).keep0 ((Mod.refl Nil (w1.alloc (.cells #[.slice none 0 0, .int .i64 0] 68))).alloc (.cells #[.slice none 0 0, .slice none 0 0, .int .i64 0] 31))
  have h2 := Blk.new (w1.alloc (.cells #[.slice none 0 0, .int .i64 0] 68)) 31 #[.slice none 0 0, .slice none 0 0, .int .i64 0]
  have e : (w1.alloc (.cells #[.slice none 0 0, .int .i64 0] 68)).heap.size = w1.heap.size + 1 := by simp
  rw [e] at h2
  have hrw : RWd w.heap.size (fun k => k < w.heap.size) ((w1.alloc (.cells #[.slice none 0 0, .int .i64 0] 68)).alloc (.cells #[.slice none 0 0, .slice none 0 0, .int .i64 0] 31)) (w1.heap.size + 1) (.slice none 0 0) (.slice none 0 0) [] [] [] 0 :=
    { blk := h2, low := (by omega), scs := World.ownsRow_nil _ _ _ _, acts := World.ownsRow_nil _ _ _ _, len := rfl, nd := List.nodup_nil, vars := (by intro k s b hs; simp at hs), stk := (by intro p hp; cases hp), acy := (by intro k s hs; simp at hs) }
  refine ⟨⟨fun k => if k = w1.heap.size then 1 else 3, w1.heap.size, .slice none 0 0, 0, [], [], [], [], w1.heap.size + 1, .slice none 0 0, .slice none 0 0, [], [], [], 0, .slice none 0 0, []⟩, ⟨⟨fun _ => ⟨h1.1, World.ownsRow_nil _ _ _ _, hb, fun f hf => by cases hf⟩, fun _ => ScAt.nil _ _, fun _ => hrw, fun _ => World.ownsRow_nil _ _ _ _, (hm.alloc _).alloc _, rfl, fun i f a hf ha => by simp at hf, ?_, ?_, ?_, ?_, fun a ha => by cases ha⟩, rfl, rfl, rfl, rfl, rfl, rfl, rfl, Int.le_refl _, Int.le_refl _, Nat.le_refl _, Nat.le_refl _, fun s hs => by (exact absurd hs (by simp)), fun a ha => by (exact absurd ha (by simp))⟩⟩
  · rintro k ((rfl | hk) | ⟨f, hf, _⟩)
    · simp
    · simp [Value.ownBlock] at hk
    · cases hf
  · rintro k ⟨p, hp, _⟩
    cases hp
  · rintro k (rfl | hk | hk | hk)
    · simp
    · simp [Value.ownBlock] at hk
    · simp [Value.ownBlock] at hk
    · cases hk
  · intro k hk
    simp [Value.ownBlock] at hk

theorem sl_blk {P : Program} {id : Nat} {y : Code} {Q Q' : Exit → Act → World → Prop} {a : Act} {w : World} (h : Code.wp P y Q a w) : Exit.inBlock id (Exit.then (Code.wp P y Q) Q') .normal a w := h
theorem sl_exit {id : Nat} {Q : Exit → Act → World → Prop} {a : Act} {w : World} (h : Q .normal a w) : Exit.inBlock id Q (.exit id) a w := by
  simp [Exit.inBlock, h]

set_option maxHeartbeats 3200000 in
set_option maxRecDepth 100000 in
theorem frdo_loop {a : Act} {w w0 : World} {g gm n cap : Nat} {A : Option Addr} {l : List Deed} (R : Ending → World → Prop)
    (HF : Sl 344 [(0, .slice A n cap), (3, .pointer (some ⟨g, 0, none⟩)), (4, .pointer (some ⟨gm, 0, none⟩)), (5, .slice none 0 0)] a)
    (hd : DoSt w0 g gm 0 (.slice none 0 0) w) (hl : l.length = n) (hr : DeedsAt (fun b => b < w0.heap.size) w0 A l) (hsm : deedsSmall l = true) (hN : ∀ a ∈ l, a.n ≤ 9223372036854775807)
    (hR : ∀ w', Mod Nil w0 w' → R (.returned (.bool true)) w') :
    (part [1, 1, 1, 1, 1] doBody).wp Try.prog (bodyPost Try.prog Try.f3 R) a w := by
  have hn40 : n ≤ 40 := by have := hsm; unfold deedsSmall at this; simp at this; have := this.1; omega
  have hall : ∀ a ∈ l, a.l.length ≤ 20 ∧ a.n ≤ 9223372036854775807 ∧ (a.kind = 0 → a.n ≤ 300) := fun a ha => by
    have h1 := hsm
    unfold deedsSmall at h1
    simp at h1
    have := h1.2 a ha
    unfold deedSmall at this
    simp at this
    refine ⟨this.1, hN a ha, fun h0 => ?_⟩
    have h2 := this.2
    omega
  have HALL := Lib.hid hall
  have HL := Lib.hid hl
  have HRR := Lib.hid hr
  have HD := Lib.hid hd
  have HR := Lib.hid hR
  clear hall hl hr hd hR hsm hN
  conv => arg 2; whnf
  refine wp_seq (wp_seq (wp_region_lit ?_))
  refine sl_const HF rfl rfl (.inr rfl) (by decide) ?_; clear HF; intro _ HF
  refine sl_nil (wp_block (wp_loop (DoI w0 g gm n cap A) (fun a _ => n - (intOf (a.eval (.tmp 6))).toNat) ?_ ?_))
  · exact ⟨0, _, Nat.zero_le _, HF.keep [0, 3, 4, 5, 6], HD.out⟩
  · clear HF HD
    rintro a2 w2 ⟨k, sv, hk, HF, d, hd⟩
    have hmu : n - (intOf (a2.eval (.tmp 6))).toNat = n - k := by rw [HF.at 6 rfl]; simp [intOf]
    have HMU := Lib.hid hmu
    have HOK := Lib.hid hd
    clear hd hmu
    by_cases hlt : k < n
    · refine wp_seq (wp_seq (wp_region_lit ?_))
      refine sl_move HF rfl rfl (.inl rfl) (by decide) rfl ?_; clear HF; intro _ HF
      refine sl_move HF rfl rfl (.inl rfl) (by decide) rfl ?_; clear HF; intro _ HF
      refine sl_op HF rfl rfl (by decide) ?_; intro K hK; have e31 := HF.see 31 rfl; go_wp2_with fail; clear e31 HF; intro _ HF
      refine sl_op HF rfl rfl (by decide) ?_; intro K hK; have e30 := HF.see 30 rfl; have e32 := HF.see 32 rfl; go_wp2_with fail; clear e30 e32 HF; intro _ HF
      refine sl_nil (wp_cond_true (HF.at 33 rfl) (wp_skip (sl_then ?_)))
      refine wp_seq (wp_block ?_)
      obtain ⟨dd, hdd⟩ : ∃ dd, l[k]? = some dd := ⟨_, List.getElem?_eq_getElem (by rw [HL.out]; exact hlt)⟩
      have hok := HOK.out
      obtain rfl := hok.sv
      refine frdo_round (l := l) (d := d) (HF.keep [0, 3, 4, 5, 6]) hok HL.out HRR.out hdd hn40 (HALL.out dd (List.mem_of_getElem? hdd)) (fun a3 w3 sv3 HF h2 => ?_)
      have H2 := Lib.hid h2
      clear hdd hok h2
      refine sl_blk (wp_region_lit ?_)
      refine sl_move HF rfl rfl (.inl rfl) (by decide) rfl ?_; clear HF; intro _ HF
      refine sl_op HF rfl rfl (by decide) ?_; intro K hK; have e34 := HF.see 34 rfl; go_wp2_with fail; clear e34 HF; intro _ HF
      refine sl_move HF rfl rfl (.inr rfl) (by decide) rfl ?_; clear HF; intro _ HF
      refine wpList_nil ?_
      show _ ∧ _ < n - _
      rw [HMU.out]
      refine ⟨⟨k + 1, sv3, by omega, ?_, H2.out⟩, ?_⟩
      · have e : Value.int .i64 ((k : Int) + 1) = .int .i64 ((k + 1 : Nat) : Int) := by simp
        rw [← e]
        exact HF.keep [0, 3, 4, 5, 6]
      · simp only [HF.at 6 rfl, intOf]
        omega
    · obtain rfl : k = n := by omega
      refine wp_seq (wp_seq (wp_region_lit ?_))
      refine sl_move HF rfl rfl (.inl rfl) (by decide) rfl ?_; clear HF; intro _ HF
      refine sl_move HF rfl rfl (.inl rfl) (by decide) rfl ?_; clear HF; intro _ HF
      refine sl_op HF rfl rfl (by decide) ?_; intro K hK; have e31 := HF.see 31 rfl; go_wp2_with fail; clear e31 HF; intro _ HF
      refine sl_op HF rfl rfl (by decide) ?_; intro K hK; have e30 := HF.see 30 rfl; have e32 := HF.see 32 rfl; go_wp2_with fail; clear e30 e32 HF; intro _ HF
      refine sl_nil (wp_cond_false (HF.at 33 rfl) (wp_exit ?_))
      dsimp only [Exit.then]
      refine sl_exit (sl_then (wp_seq (wp_region_lit ?_)))
      refine sl_const HF rfl rfl (.inr rfl) (by decide) ?_; clear HF; intro _ HF
      refine sl_nil (wp_ret ?_)
      exact sl_ret1 HF rfl rfl (HR.out _ HOK.out.st.mod)

set_option maxHeartbeats 3200000 in
set_option maxRecDepth 100000 in
theorem frameDoes_walk (A : Option Addr) (n cap : Nat) (l : List Deed) (w : World) (hl : l.length = n) (hr : DeedsAt All w A l) (hN : ∀ a ∈ l, a.n ≤ 9223372036854775807) :
    Calls Try.prog 3 #[.slice A n cap] w fun r w' => r = .returned (.bool true) ∧ Mod Nil w w' := by
  have HR := Lib.hid hr.low
  have HL := Lib.hid hl
  have HNN := Lib.hid hN
  have haw := awake24_any w
  have HAW := Lib.hid haw
  clear hr hl hN haw
  refine sl_enter (n := 344) Try.func3 rfl rfl (by simp) fun a HF => ?_
  refine wp_seq (wp_region_lit ?_)
  refine sl_const HF rfl rfl (.inr rfl) (by decide) ?_; clear HF; intro _ HF
  refine sl_nil (wp_seq (wp_seq (wp_region_lit ?_)))
  refine sl_op HF rfl rfl (by decide) ?_; intro K hK; go_wp2_with fail
  refine HAW.out.mono ?_
  rintro r w1 ⟨rfl, hm1⟩
  have HM1 := Lib.hid hm1
  have hsm := small24_any _ A n cap l w1 HL.out (HR.out.keep hm1 (fun _ _ => id))
  obtain ⟨bs, hbs⟩ : ∃ bs, bs = deedsSmall l := ⟨_, rfl⟩
  rw [← hbs] at hsm
  have HBS := Lib.hid hbs
  have HSM := Lib.hid hsm
  clear hm1 hbs hsm
  go_wp2_with fail; clear HF; intro _ HF
  refine sl_op HF rfl rfl (by decide) ?_; intro K hK; have e19 := HF.see 19 rfl; go_wp2_with fail; clear e19 HF; intro _ HF
  refine sl_move HF rfl rfl (.inl rfl) (by decide) rfl ?_; clear HF; intro _ HF
  refine sl_want HF rfl rfl rfl rfl (by decide) ?_; intro K hK; have e0 := HF.see 0 rfl; go_wp2_with fail; clear e0 HF; intro _ HF
  refine sl_want HF rfl rfl rfl rfl (by decide) ?_; intro K hK; have e22 := HF.see 22 rfl; go_wp2_with fail
  refine HSM.out.mono ?_
  rintro r w2 ⟨rfl, hm2⟩
  have HM2 := Lib.hid (HM1.out.trans hm2)
  clear hm2
  cases bs
  · skip
    go_wp2_with fail; clear e22 HF; intro _ HF
    refine sl_want HF rfl rfl rfl rfl (by decide) ?_; intro K hK; have e23 := HF.see 23 rfl; go_wp2_with fail; clear e23 HF; intro _ HF
    refine sl_op HF rfl rfl (by decide) ?_; intro K hK; have e21 := HF.see 21 rfl; have e24 := HF.see 24 rfl; go_wp2_with fail; clear e21 e24 HF; intro _ HF
    refine sl_nil (wp_cond_true (HF.at 25 rfl) (wp_seq (wp_region_lit ?_)))
    have HAW2 := Lib.hid (awake24_any w2)
    refine sl_op HF rfl rfl (by decide) ?_; intro K hK; go_wp2_with fail
    refine HAW2.out.mono ?_
    rintro r w3 ⟨rfl, hm3⟩
    have HM3 := Lib.hid (HM2.out.trans hm3)
    clear hm3
    go_wp2_with fail; clear HF; intro _ HF
    refine sl_move HF rfl rfl (.inr rfl) (by decide) rfl ?_; clear HF; intro _ HF
    refine sl_nil (wp_ret ?_)
    dsimp only [Exit.then]
    exact sl_ret1 HF rfl rfl ⟨rfl, HM3.out⟩
  · skip
    go_wp2_with fail; clear e22 HF; intro _ HF
    refine sl_want HF rfl rfl rfl rfl (by decide) ?_; intro K hK; have e23 := HF.see 23 rfl; go_wp2_with fail; clear e23 HF; intro _ HF
    refine sl_op HF rfl rfl (by decide) ?_; intro K hK; have e21 := HF.see 21 rfl; have e24 := HF.see 24 rfl; go_wp2_with fail; clear e21 e24 HF; intro _ HF
    refine sl_nil (wp_cond_false (HF.at 25 rfl) (wp_skip (sl_then ?_)))
    refine wp_seq (wp_region_lit ?_)
    have HNW := Lib.hid (stkNew_any w2)
    refine sl_op HF rfl rfl (by decide) ?_; intro K hK; go_wp2_with fail
    refine HNW.out.mono ?_
    rintro r w3 ⟨rfl, hw3⟩
    subst hw3
    have HD := Lib.hid (DoSt.new HM2.out)
    go_wp2_with fail; clear HF; intro _ HF
    refine sl_move HF rfl rfl (.inr rfl) (by decide) rfl ?_; clear HF; intro _ HF
    refine sl_nil (wp_seq (wp_region_lit ?_))
    refine sl_op HF rfl rfl (by decide) ?_; intro K hK; go_wp2_with fail; clear HF; intro _ HF
    refine sl_op HF rfl rfl (by decide) ?_; intro K hK; have e28 := HF.see 28 rfl; go_wp2_with fail; clear e28 HF; intro _ HF
    refine sl_move HF rfl rfl (.inr rfl) (by decide) rfl ?_; clear HF; intro _ HF
    refine sl_nil (wp_seq (wp_region_lit ?_))
    refine sl_const HF rfl rfl (.inr rfl) (by decide) ?_; clear HF; intro _ HF
    refine sl_nil ?_
    exact frdo_loop _ (HF.keep [0, 3, 4, 5]) HD.out HL.out HR.out HBS.out.symm HNN.out (fun w' h => ⟨rfl, h⟩)
end Go.Proofs.Ytpjpmlhnhcmacaa
