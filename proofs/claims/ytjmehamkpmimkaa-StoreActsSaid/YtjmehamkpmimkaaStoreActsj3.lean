/- Parts of the proof of StoreActs, joined: RdkY RdkC RdrW OctAw OctR OctWrW RdrP. -/
import Derived.Test.YtjmehamkpmimkaaStoreActsj2
import Derived.Deep.DeepCutAuto
import Derived.Deep.CutBlock
import Derived.Lib.EndianBits
namespace Go.Proofs.Ytjmehamkpmimkaa
open Go.RowKit

theorem RdkAt.imgLen {B : Nat} {w : World} {g : Nat} {F : Nat → Prop} {s : DSt} (h : RdkAt B w g F s) : s.img.length = s.S.length := by
  obtain ⟨vw, _, h⟩ := h
  exact imgOf_length (fun x hx => (h.fit x hx).1)

theorem rsync_after {B g : Nat} {F F1 : Nat → Prop} {s s1 : DSt} {w w1 w2 : World} {vw : Value} {e : Ending} (hd : RdkIs B w2 g vw s1) (hF : F1 = RF g vw)
    (hm1 : Mod F w w1) (hm2 : Mod Nil w1 w2) (hF1 : ∀ k, F1 k → F k ∨ w.heap.size ≤ k) (hlt : g < w1.heap.size) (hs : s1.img = s.img) :
    RdkPost B w g F ⟨s.img, [], s1.left⟩ e e ((w2.setCell ⟨g, 0, none⟩ (.string (str s.img))).setCell ⟨g, 1, none⟩ (.slice none 0 0)) := by
  have hlen : s1.img.length = s1.S.length := imgOf_length (fun x hx => (hd.fit x hx).1)
  have hm3 : Mod (fun k => k = g) w2 ((w2.setCell ⟨g, 0, none⟩ (.string (str s.img))).setCell ⟨g, 1, none⟩ (.slice none 0 0)) := ((Mod.refl (fun k => k = g) w2).set (p := ⟨g, 0, none⟩) (.inl rfl) _).set (p := ⟨g, 1, none⟩) (.inl rfl) _
  have hgF : F1 g := hF ▸ .inl rfl
  refine ⟨rfl, RF g (.slice none 0 0), ⟨.slice none 0 0, rfl, ?_, hd.low, World.ownsRow_nil _ _ _ _, fun x hx => (by cases hx), ?_⟩, ?_, ?_⟩
  · simpa using (hd.blk.set_ 0 (.string (str s.img))).set_ 1 (.slice none 0 0)
  · show s.img.length ≤ _
    rw [← hs, hlen]; exact hd.big
  · refine ((hm1.trans' hm2 (H := fun k => F k ∨ k = g) (fun _ _ h => .inl h) (fun _ _ h => h.elim)).trans' hm3 (H := fun k => F k ∨ k = g) (fun _ _ h => h) (fun k hk hkg => .inr hkg)).mono (fun k hk hkg => ?_)
    rcases hkg with h | rfl
    · exact h
    · exact (hF1 k hgF).resolve_right (by omega)
  · rintro k (rfl | hk)
    · exact hF1 k hgF
    · cases hk

set_option maxHeartbeats 1600000 in
set_option maxRecDepth 100000 in
theorem rdkSync_any (B g : Nat) (F : Nat → Prop) (s : DSt) (w : World) (h : RdkAt B w g F s) (hB : B ≤ w.heap.size) (hbig : s.ws.length ≤ 1000000) (hl : s.left ≤ 9223372036854775807) :
    Calls Try.prog 65 #[.pointer (some ⟨g, 0, none⟩)] w (RdkPost B w g F (if s.on then ⟨s.img, [], s.spend.left⟩ else s) (.returned (.int .i64 (if s.on then 0 else 20)))) := by
  have HC := Lib.hid (rdkOn_any B g F s w h hl)
  by_cases hon : s.on = true
  · rw [if_pos hon, if_pos hon]
    rw [hon] at HC
    go_enter Try.func65, Try.ntmps65
    go_wp2_with fail
    refine HC.out.mono ?_
    rintro r w1 ⟨rfl, F1, hd1, hm1, hF1⟩
    have HD1 := Lib.hid hd1
    have HM1 := Lib.hid hm1
    have HF1 := Lib.hid hF1
    clear hd1 hm1 hF1 h
    go_wp2_with fail
    refine (rdkImage_any B g F1 s.spend w1 HD1.out (by unfold DSt.spend; split <;> exact hbig)).mono ?_
    rintro r w2 ⟨rfl, hm2⟩
    rw [spend_img]
    obtain ⟨vw, hFF, hd⟩ := HD1.out.keep0 hm2
    have hc0 := hd.blk.cell 0
    have hc1 := hd.blk.cell 1
    have hf0 := hd.blk.frozen 0
    have hf1 := hd.blk.frozen 1
    have hgl := hd.blk.lt
    have HGL := Lib.hid (show g < w1.heap.size from (HD1.out.lt g (hFF ▸ .inl rfl)).2)
    have HM2 := Lib.hid hm2
    have HD := Lib.hid hd
    have HFF := Lib.hid hFF
    clear hm2 hd hFF
    go_wp2_with fail
    go_ret
    exact rsync_after HD.out HFF.out HM1.out HM2.out HF1.out HGL.out (spend_img s)
  · rw [if_neg hon, if_neg hon]
    have hon' : s.on = false := by simpa using hon
    rw [hon', spend_off hon'] at HC
    go_enter Try.func65, Try.ntmps65
    go_wp2_with fail
    refine HC.out.mono ?_
    rintro r w1 ⟨rfl, F1, hd1, hm1, hF1⟩
    have HD1 := Lib.hid hd1
    have HM1 := Lib.hid hm1
    have HF1 := Lib.hid hF1
    clear hd1 hm1 hF1 h
    go_wp2_with fail
    go_ret
    exact ⟨rfl, F1, HD1.out, HM1.out, HF1.out⟩

theorem rwrite_after {B g c1 c' k n : Nat} {A1 A' : Option Addr} {F F1 : Nat → Prop} {s1 : DSt} {w w1 w3 : World} {b : List UInt8} {e : Ending}
    (hd : RdkIs B w1 g (.slice A1 k c1) s1) (hF : F1 = RF g (.slice A1 k c1)) (hm1 : Mod F w w1) (hF1 : ∀ k, F1 k → F k ∨ w.heap.size ≤ k) (hm3 : Mod Nil w1 w3) (hk : s1.ws.length = k)
    (hown : w3.ownsRow B 106 2 (.slice A' (k + 1) c') (k + 1) (s1.ws.flatMap rwCells ++ [.int .i64 n, .string (str b)])) (hat : ∀ j, (Value.slice A' (k + 1) c').ownBlock = some j → w1.heap.size ≤ j)
    (hb : b.length = 64) (hfit : 64 * n + 64 ≤ s1.S.length) :
    RdkPost B w g F (s1.put n b) e e (w3.setCell ⟨g, 1, none⟩ (.slice A' (k + 1) c')) := by
  have hd3 := hd.keep hm3 (fun _ _ => id)
  have hgF : F1 g := hF ▸ .inl rfl
  have hgl := hd.blk.lt
  have hne : (Value.slice A' (k + 1) c').ownBlock ≠ some g := fun h => by have := hat g h; omega
  have hm4 : Mod (fun j => j = g) w3 (w3.setCell ⟨g, 1, none⟩ (.slice A' (k + 1) c')) := (Mod.refl (fun j => j = g) w3).set (p := ⟨g, 1, none⟩) (.inl rfl) _
  refine ⟨rfl, RF g (.slice A' (k + 1) c'), ⟨_, rfl, ?_, hd.low, ?_, ?_, hd.big⟩, ?_, ?_⟩
  · simpa [DSt.put] using hd3.blk.set_ 1 (.slice A' (k + 1) c')
  · have := own_keep hown hm4 (fun j hj hjg => hne (hjg ▸ hj))
    simpa [DSt.put, hk, rwCells] using this
  · intro x hx
    rcases List.mem_append.1 hx with hx | hx
    · exact hd.fit x hx
    · obtain rfl : x = (n, b) := by simpa using hx
      exact ⟨by show 64 * n + b.length ≤ s1.S.length; omega, hb⟩
  · refine ((hm1.trans' hm3 (H := fun k => F k ∨ k = g) (fun _ _ h => .inl h) (fun _ _ h => h.elim)).trans' hm4 (H := fun k => F k ∨ k = g) (fun _ _ h => h) (fun k hk hkg => .inr hkg)).mono (fun k hk hkg => ?_)
    rcases hkg with h | rfl
    · exact h
    · rcases hF1 k hgF with h | h
      · exact h
      · omega
  · rintro j (rfl | hj)
    · exact hF1 j hgF
    · exact .inr (by have := hat j hj; have := hm1.size; omega)

theorem rw_one (ws : List (Nat × List UInt8)) : ∀ u ∈ ws.flatMap rwCells, u.oneCell' = true := by
  intro u hu
  obtain ⟨x, _, hx⟩ := List.mem_flatMap.1 hu
  simp [rwCells] at hx
  rcases hx with rfl | rfl <;> rfl

theorem rw_info : (Try.prog.info? 106).map (fun i => (i.zero, i.size, i.bytes)) = some (some (.agg #[.int .i64 0, .string ⟨#[]⟩]), 2, 24) := by kernel_rfl

set_option maxHeartbeats 3200000 in
set_option maxRecDepth 100000 in
theorem rdkWrite_any (B g : Nat) (F : Nat → Prop) (s : DSt) (n : Int) (b : List UInt8) (w : World) (h : RdkAt B w g F s) (hB : B ≤ w.heap.size) (hbig : s.ws.length ≤ 1000000) (hl : s.left ≤ 9223372036854775807) (hbb : b.length ≤ 1000000000) :
    Calls Try.prog 28 #[.pointer (some ⟨g, 0, none⟩), .int .i64 n, .string (str b)] w (RdkPost B w g F (s.write n b).1 (.returned (.int .i64 (s.write n b).2))) := by
  have HT := Lib.hid (rdkThere_any B g F s n w h)
  have HH := Lib.hid h
  have hs := str_size b
  by_cases ht : s.there n = true
  · rw [ht] at HT
    by_cases hb : b.length = 64
    · have hn : 0 ≤ n := by unfold DSt.there at ht; simp at ht; exact ht.1
      obtain ⟨m, rfl⟩ := Int.eq_ofNat_of_zero_le hn
      have HO := Lib.hid (rdkOn_any B g F s w h hl)
      by_cases hon : s.on = true
      · have HE := Lib.hid (show s.write m b = (s.spend.put m b, 0) by unfold DSt.write; rw [if_pos ⟨ht, hb⟩, if_pos hon]; rfl)
        rw [hon] at HO
        rw [hb] at hs
        have hws : s.spend.ws.length ≤ 1000000 := by unfold DSt.spend; split <;> exact hbig
        have HTH := Lib.hid (DSt.there_fits ht)
        have HB := Lib.hid hb
        have HSS := Lib.hid (show s.spend.S = s.S by unfold DSt.spend; split <;> rfl)
        obtain ⟨i0, hi, hz0, hz1, hz2⟩ := info_parts rw_info
        clear h ht hb hbb hn
        go_enter Try.func28, Try.ntmps28
        go_wp2_with fail
        refine HT.out.mono ?_
        rintro r w0 ⟨rfl, rfl⟩
        go_wp2_with fail
        refine HO.out.mono ?_
        rintro r w1 ⟨rfl, F1, hd1, hm1, hF1⟩
        have HM1 := Lib.hid hm1
        have HF1 := Lib.hid hF1
        obtain ⟨vw, hFF, hd⟩ := hd1
        have hc1 := hd.blk.cell 1
        have hf1 := hd.blk.frozen 1
        have hgl := hd.blk.lt
        obtain ⟨A1, c1, rfl, hc1l, hc1b⟩ := own_slice hd.waits
        obtain ⟨k, hk⟩ : ∃ k, s.spend.ws.length = k := ⟨_, rfl⟩
        rw [hk] at hd hFF hc1 hc1l hws
        have HD := Lib.hid hd
        have HK := Lib.hid hk
        have HFF := Lib.hid hFF
        clear hm1 hF1 hd hFF hk
        have HCL := Lib.hid (show 0 < k → ∃ ad, A1 = some ad ∧ ∀ j u, (s.spend.ws.flatMap rwCells)[j]? = some u → (w1.alloc (.cells #[] 106)).cell? (ad.add j) = some u from fun hk0 => by
          obtain ⟨gw, cw, hgw, _, hgwl⟩ := HD.out.waits.form (by have := HK.out; omega)
          injection hgw with hC _ hdd
          subst hC hdd
          refine ⟨_, rfl, fun j u hu => ?_⟩
          have := HD.out.waits.cells (g := gw) rfl j u hu
          exact (((Mod.refl Nil w1).alloc _).cell (by rw [block_of_add]; exact hgwl) id).trans this)
        have HLEN := Lib.hid (show (s.spend.ws.flatMap rwCells).length = k * 2 by have := HD.out.waits.1; rw [HK.out] at this; exact this)
        have hB1 := Nat.le_trans hB HM1.out.size
        go_wp2_with (first
          | (at_builtin; refine wpList_append_k _ rfl (.tmp 20) (.tmp 24) 79 rfl B 106 i0 (.agg #[.int .i64 0, .string ⟨#[]⟩]) 2 24 Try.underlying79 hi hz0 hz1 hz2 rfl (by decide) (.slice (some ⟨w1.heap.size, 0, none⟩) 0 0) 0 [] rfl (World.ownsRow_made w1 #[] 0 hB1 (by simp [maxLen]) rfl) A1 k c1 (s.spend.ws.flatMap rwCells) rfl HLEN.out HCL.out (rw_one _) (by omega) (by simp only [maxLen]; omega) (by simp; omega) ?_; intro A2 c2 w2 hown2 hmod2 hat2; rw [Nat.zero_add, List.nil_append] at hown2; rw [Nat.zero_add] at hat2; have HO2 := Lib.hid hown2; have HM2 := Lib.hid (show Mod Nil w1 w2 from ((Mod.refl Nil w1).alloc _).trans' hmod2 (fun _ _ h => h) (fun j hj hjv => by (have e : w1.heap.size = j := by simpa [Value.ownBlock] using hjv); omega)); have HA2 := Lib.hid (show ∀ j, (Value.slice A2 k c2).ownBlock = some j → w1.heap.size ≤ j from fun j hj => (hat2 j hj).elim (fun h => by (have e : w1.heap.size = j := by simpa [Value.ownBlock] using h); omega) (fun h => by (have e : (w1.alloc (.cells #[] 106)).heap.size = w1.heap.size + 1 := by simp); omega)); clear hown2 hmod2 hat2)
          | (at_builtin; go_must (refine wpList_append_k _ rfl (.tmp 25) (.tmp 29) 79 rfl B 106 i0 (.agg #[.int .i64 0, .string ⟨#[]⟩]) 2 24 Try.underlying79 hi hz0 hz1 hz2 rfl (by decide) (.slice A2 k c2) k (s.spend.ws.flatMap rwCells) rfl (own_keep HO2.out ((Mod.refl Nil w2).alloc _) (fun _ _ => id)) (some ⟨w2.heap.size, 0, none⟩) 1 1 [.int .i64 m, .string (str b)] rfl rfl (fun _ => ⟨_, rfl, cells_new w2 _ #[.int .i64 m, .string (str b)]⟩) (by intro u hu; simp at hu; rcases hu with rfl | rfl <;> rfl) (by omega) (by simp only [maxLen]; omega) (by have := HM2.out.size; simp; omega) ?_; intro A3 c3 w3 hown3 hmod3 hat3; have HM3 := Lib.hid (show Mod Nil w1 w3 from (HM2.out.alloc _).trans' hmod3 (fun _ _ h => h) (fun j hj hjv => absurd hj (by have := HA2.out j hjv; omega))); have hb3 := HD.out.blk.keep HM3.out id; have hf3 := hb3.frozen 1; have hc3 := hb3.cell 1; have hgl3 := hb3.lt; have HP := Lib.hid (fun (e : Ending) => rwrite_after (e := e) HD.out HFF.out HM1.out HF1.out HM3.out HK.out hown3 (fun j hj => (hat3 j hj).elim (HA2.out j) (fun h => by have := HM2.out.size; simp at h; omega)) HB.out (by rw [HSS.out]; exact HTH.out)); clear hb3 hown3 hmod3 hat3)))
        go_ret
        rw [HE.out]
        exact HP.out _
      · have hon' : s.on = false := by simpa using hon
        have HE := Lib.hid (show s.write m b = (s, 20) by unfold DSt.write; rw [if_pos ⟨ht, hb⟩, if_neg hon])
        rw [hon', spend_off hon'] at HO
        rw [hb] at hs
        clear h ht hb hbb hn hon hon'
        go_enter Try.func28, Try.ntmps28
        go_wp2_with fail
        refine HT.out.mono ?_
        rintro r w0 ⟨rfl, rfl⟩
        go_wp2_with fail
        refine HO.out.mono ?_
        rintro r w1 ⟨rfl, hp⟩
        have HP := Lib.hid hp
        clear hp
        go_wp2_with fail
        go_ret
        rw [HE.out]
        exact ⟨rfl, HP.out⟩
    · have HE := Lib.hid (show s.write n b = (s, 2) by unfold DSt.write; rw [if_neg (fun h => hb h.2)])
      have hNb : ((b.length : Int) == 64) = false := by simp; omega
      clear h ht hbb
      go_enter Try.func28, Try.ntmps28
      go_wp2_with fail
      refine HT.out.mono ?_
      rintro r w0 ⟨rfl, rfl⟩
      go_wp2_with fail
      go_ret
      rw [HE.out]
      exact ⟨rfl, F, HH.out, Mod.refl _ _, fun _ h => .inl h⟩
  · have ht' : s.there n = false := by simpa using ht
    have HE := Lib.hid (show s.write n b = (s, 2) by unfold DSt.write; rw [if_neg (fun h => ht h.1)])
    rw [ht'] at HT
    clear h ht ht' hbb
    go_enter Try.func28, Try.ntmps28
    go_wp2_with fail
    refine HT.out.mono ?_
    rintro r w0 ⟨rfl, rfl⟩
    go_wp2_with fail
    go_ret
    rw [HE.out]
    exact ⟨rfl, F, HH.out, Mod.refl _ _, fun _ h => .inl h⟩
end Go.Proofs.Ytjmehamkpmimkaa

namespace Go.Proofs.Ytjmehamkpmimkaa
open Go.RowKit

theorem RdkIs.sure_ {B g : Nat} {w : World} {vw : Value} {s : DSt} (h : RdkIs B w g vw s) {S' : List UInt8} (hl : S'.length = s.S.length) : RdkIs B (w.setCell ⟨g, 0, none⟩ (.string (str S'))) g vw ⟨S', s.ws, s.left⟩ :=
  ⟨by simpa using h.blk.set_ 0 (.string (str S')), h.low, own_keep h.waits ((Mod.refl (fun k => k = g) w).set (p := ⟨g, 0, none⟩) (.inl rfl) _) (fun k hk hkg => h.ne (hkg ▸ hk)), fun x hx => by rw [show (⟨S', s.ws, s.left⟩ : DSt).S.length = s.S.length from hl]; exact h.fit x hx, by rw [show (⟨S', s.ws, s.left⟩ : DSt).S.length = s.S.length from hl]; exact h.big⟩

theorem rcrash_round {B g : Nat} {vw : Value} {s : DSt} {w wr wX : World} {S' : List UInt8} (hd : RdkIs B wr g vw s) (hm : Mod (RF g vw) w wr) (hl : S'.length = s.S.length) (hX : Mod Nil wr wX) :
    RdkIs B (wX.setCell ⟨g, 0, none⟩ (.string (str S'))) g vw ⟨S', s.ws, s.left⟩ ∧ Mod (RF g vw) w (wX.setCell ⟨g, 0, none⟩ (.string (str S'))) :=
  ⟨(hd.keep hX (fun _ _ => id)).sure_ hl, (hm.trans hX.any).set (p := ⟨g, 0, none⟩) (.inl (.inl rfl)) _⟩

theorem rcrash_after {B g : Nat} {vw : Value} {s : DSt} {w w2 : World} {e : Ending} (hd : RdkIs B w2 g vw s) (hm : Mod (RF g vw) w w2) :
    RdkPost B w g (RF g vw) ⟨s.S, [], -1⟩ e e ((w2.setCell ⟨g, 1, none⟩ (.slice none 0 0)).setCell ⟨g, 2, none⟩ (.int .i64 (-1))) := by
  refine ⟨rfl, RF g (.slice none 0 0), ⟨.slice none 0 0, rfl, by simpa using (hd.blk.set_ 1 (.slice none 0 0)).set_ 2 (.int .i64 (-1)), hd.low, World.ownsRow_nil _ _ _ _, fun x hx => (by cases hx), hd.big⟩, (hm.set (p := ⟨g, 1, none⟩) (.inl (.inl rfl)) _).set (p := ⟨g, 2, none⟩) (.inl (.inl rfl)) _, ?_⟩
  rintro k (rfl | hk)
  · exact .inl (.inl rfl)
  · cases hk

set_option maxHeartbeats 6400000 in
set_option maxRecDepth 100000 in
theorem rdkCrash_any (B g : Nat) (F : Nat → Prop) (s : DSt) (K : Option Addr) (kn kc : Nat) (keep : List Bool) (torn octets : Int) (S0 : Nat → Prop) (w : World) (h : RdkAt B w g F s) (hbig : s.ws.length ≤ 1000000)
    (hkl : keep.length = kn) (hr : Rd S0 w K (keep.map Value.bool)) (hS : ∀ k, S0 k → ¬ F k) :
    Calls Try.prog 23 #[.pointer (some ⟨g, 0, none⟩), .slice K kn kc, .int .i64 torn, .int .i64 octets] w (RdkPost B w g F (s.crash keep torn octets) (.returned (.tuple #[]))) := by
  obtain ⟨vw, rfl, h⟩ := h
  have hbs := h.big
  obtain ⟨C, d, rfl, hd1, hd2⟩ := own_slice h.waits
  have H := Lib.hid h
  have HR := Lib.hid hr
  have HS := Lib.hid hS
  obtain ⟨k0, hk0⟩ : ∃ k0, s.ws.length = k0 := ⟨_, rfl⟩
  rw [hk0] at hbig hd1
  have HK := Lib.hid hk0
  have HKL := Lib.hid hkl
  obtain ⟨t, ht⟩ : ∃ t, clamp octets = t := ⟨_, rfl⟩
  have ht64 : t ≤ 64 := by unfold clamp at ht; omega
  have ht64i : (t : Int) ≤ 64 := by omega
  have HT := Lib.hid ht
  clear h hk0 hr hS hkl ht
  go_enter Try.func23, Try.ntmps23
  go_upto_if 13 with fail
  go_cut [8] (fun nv wx => nv = .int .i64 (max octets 0) ∧ wx = w)
  case first =>
    by_cases h0 : octets < 0
    · have HX := Lib.hid (show (0 : Int) = max octets 0 by omega)
      go_wp2_with fail
      go_meet
      case rel => exact ⟨congrArg (Value.int .i64) HX.out, rfl⟩
    · have HX := Lib.hid (show octets = max octets 0 by omega)
      go_wp2_with fail
      go_meet
      case rel => exact ⟨congrArg (Value.int .i64) HX.out, rfl⟩
  case rest =>
    obtain ⟨rfl, rfl⟩ := hcut
    obtain ⟨q, hq⟩ : ∃ q, q = max octets 0 := ⟨_, rfl⟩
    rw [← hq]
    have HQ := Lib.hid (show (64 < q → (t : Int) = 64) ∧ (¬ 64 < q → (t : Int) = q) by have := HT.out; unfold clamp at this; omega)
    clear hq
    go_upto_if 15 with fail
    go_cut [8] (fun nv wx => nv = .int .i64 t ∧ wx = wc)
    case first =>
      by_cases h0 : 64 < q
      · have HX := Lib.hid (HQ.out.1 h0).symm
        go_wp2_with fail
        go_meet
        case rel => exact ⟨congrArg (Value.int .i64) HX.out, rfl⟩
      · have HX := Lib.hid (HQ.out.2 h0).symm
        go_wp2_with fail
        go_meet
        case rel => exact ⟨congrArg (Value.int .i64) HX.out, rfl⟩
    case rest =>
      obtain ⟨rfl, rfl⟩ := hcut
      go_wp2_with fail
      go_loopw [9] (fun iv wr => ∃ k : Nat, k ≤ k0 ∧ iv = .int .i64 k ∧ RdkIs B wr g (.slice C s.ws.length d) ⟨crTo keep torn (clamp octets) s.S s.ws k, s.ws, s.left⟩ ∧ Mod (RF g (.slice C s.ws.length d)) wc wr) (fun v _ => k0 - (intOf v).toNat)
      case atStart => exact ⟨0, Nat.zero_le _, rfl, H.out, Mod.refl _ _⟩
      case round =>
        obtain ⟨k, hk, rfl, hd, hm⟩ := hrel
        have hc1 : wr.cell? ⟨g, 1, none⟩ = some (.slice C k0 d) := by have := hd.blk.cell 1; rw [HK.out] at this; exact this
        have hgl := hd.blk.lt
        by_cases hlt : k < k0
        · obtain ⟨x, hx⟩ : ∃ x, s.ws[k]? = some x := ⟨_, List.getElem?_eq_getElem (by have := HK.out; omega)⟩
          have hxm := List.mem_of_getElem? hx
          obtain ⟨e1, e2⟩ := flatMap_rw s.ws k x hx
          obtain ⟨gw, cw, hgw, _, _⟩ := hd.waits.form (by show 0 < s.ws.length; have := HK.out; omega)
          injection hgw with hC hnn hdd
          subst hC hdd
          clear hnn
          have hcl := hd.waits.cells (g := gw) rfl
          have q1 := hcl _ _ e1
          have q2 := hcl _ _ e2
          rw [Addr.add_lit, Nat.zero_add] at q1 q2
          obtain ⟨Sk, hSk⟩ : ∃ Sk, Sk = crTo keep torn (clamp octets) s.S s.ws k := ⟨_, rfl⟩
          have hnext : crTo keep torn (clamp octets) s.S s.ws (k + 1) = crStep keep torn t Sk k x := by
            rw [crTo, hx, ← hSk, HT.out]
          rw [← hSk] at hd
          have hfit := H.out.fit x hxm
          have hlS : Sk.length = s.S.length := by rw [hSk]; exact crTo_length (fun y hy => (H.out.fit y hy).1) k
          have hc0 : wr.cell? ⟨g, 0, none⟩ = some (.string (str Sk)) := hd.blk.cell 0
          have hf0 := hd.blk.frozen 0
          have hx64 : x.2.length = 64 := hfit.2
          have hxa : 64 * x.1 + 64 ≤ Sk.length := by rw [hlS]; have := hfit.1; omega
          have hSb : Sk.length ≤ 4194304 := by rw [hlS]; exact hbs
          have hwx : IntKind.i64.wrap (64 * (x.1 : Int)) = ((64 * x.1 : Nat) : Int) := by rw [IntWalk.i64_in _ (by omega)]; omega
          have hsx : (str x.2).size = 64 := by rw [str_size]; exact hx64
          have HNX := Lib.hid hnext
          have HD := Lib.hid hd
          have HM := Lib.hid hm
          have HLS := Lib.hid hlS
          have hwlt := (hd.waits.lt gw rfl).2
          have HX64 := Lib.hid hx64
          clear e1 e2 hcl hSk hnext hd hm hlS hx hfit hx64
          go_upto_block 1 with (fail)
          go_cut [] (fun wx => RdkIs B wx g (.slice (some ⟨gw, 0, none⟩) s.ws.length d) ⟨crTo keep torn (clamp octets) s.S s.ws (k + 1), s.ws, s.left⟩ ∧ Mod (RF g (.slice (some ⟨gw, 0, none⟩) s.ws.length d)) wc wx)
          case first =>
            by_cases htorn : (k : Int) = torn
            · have hb : ((k : Int) == torn) = true := by simp [htorn]
              have HCT := Lib.hid (show crStep keep torn t Sk k x = splice Sk (64 * x.1) (x.2.take t) by unfold crStep; rw [if_pos htorn]; rfl)
              have hxt : (str x.2).extract 0 t = str (x.2.take t) := by rw [str_extract]; simp
              have HRL := Lib.hid (show 64 * x.1 + (x.2.take t).length ≤ Sk.length by rw [List.length_take]; omega)
              have HRB := Lib.hid (show Sk.length ≤ 1000000000 by omega)
              clear htorn
              go_wp2_with fail
              go_region_law (go_simp; go_at_call 67; (try rw [hxt]); refine (refLay_any Sk (x.2.take t) (64 * x.1) _ HRL.out HRB.out).mono ?_; rintro r w5 ⟨rfl, k5, rfl⟩)
              all_goals
                go_wp2_with fail
                go_meet
                case rel =>
                  have hlen : (splice Sk (64 * x.1) (x.2.take t)).length = Sk.length := length_splice _ _ _ HRL.out
                  rw [HNX.out, HCT.out]
                  exact rcrash_round (s := ⟨Sk, s.ws, s.left⟩) HD.out HM.out hlen (((Mod.refl Nil wr).alloc _).drewN _)
            · have hb : ((k : Int) == torn) = false := by simp [htorn]
              have hrd' := ((HR.out.keep HM.out HS.out).keep0 ((Mod.refl Nil wr).alloc (.cells #[.int .i64 x.1, .string (str x.2)] 106)))
              by_cases hkeep : keep[k]? = some true
              · have HCT := Lib.hid (show crStep keep torn t Sk k x = splice Sk (64 * x.1) x.2 by unfold crStep; rw [if_neg htorn, if_pos hkeep]; rfl)
                have hkn : k < kn := by have := (List.getElem?_eq_some_iff.1 hkeep).1; have := HKL.out; omega
                obtain ⟨ad, rfl, _, _, hck⟩ := hrd'.at_ (k := k) (u := .bool true) (by rw [List.getElem?_map, hkeep]; rfl)
                have HRL := Lib.hid (show 64 * x.1 + x.2.length ≤ Sk.length by have := HX64.out; omega)
                have HRB := Lib.hid (show Sk.length ≤ 1000000000 by omega)
                clear htorn hkeep hrd'
                go_wp2_with fail
                go_region_law (go_simp; go_at_call 67; refine (refLay_any Sk x.2 (64 * x.1) _ HRL.out HRB.out).mono ?_; rintro r w5 ⟨rfl, k5, rfl⟩)
                all_goals
                  go_wp2_with fail
                  go_meet
                  case rel =>
                    have hlen : (splice Sk (64 * x.1) x.2).length = Sk.length := length_splice _ _ _ HRL.out
                    rw [HNX.out, HCT.out]
                    exact rcrash_round (s := ⟨Sk, s.ws, s.left⟩) HD.out HM.out hlen (((Mod.refl Nil wr).alloc _).drewN _)
              · have HCT := Lib.hid (show crStep keep torn t Sk k x = Sk by unfold crStep; rw [if_neg htorn, if_neg hkeep])
                by_cases hkn : k < kn
                · obtain ⟨b, hbk⟩ : ∃ b, keep[k]? = some b := ⟨_, List.getElem?_eq_getElem (by have := HKL.out; omega)⟩
                  obtain rfl : b = false := by cases b <;> simp_all
                  obtain ⟨ad, rfl, _, _, hck⟩ := hrd'.at_ (k := k) (u := .bool false) (by rw [List.getElem?_map, hbk]; rfl)
                  clear htorn hkeep hbk hrd'
                  go_wp2_with fail
                  go_meet
                  case rel =>
                    rw [HNX.out, HCT.out]
                    exact ⟨HD.out.keep ((Mod.refl Nil wr).alloc _) (fun _ _ => id), HM.out.alloc _⟩
                · clear htorn hkeep hrd'
                  go_wp2_with fail
                  go_meet
                  case rel =>
                    rw [HNX.out, HCT.out]
                    exact ⟨HD.out.keep ((Mod.refl Nil wr).alloc _) (fun _ _ => id), HM.out.alloc _⟩
          case rest =>
            have HCUT := Lib.hid hcut
            clear hcut
            go_wp2_with fail
            go_roundw
            case rel => exact ⟨k + 1, by omega, by go_num, HCUT.out.1, HCUT.out.2⟩
            case measure => simp [intOf] <;> omega
        · have hc2 := hd.blk.cell 2
          have hf1 := hd.blk.frozen 1
          have hf2 := hd.blk.frozen 2
          have HP := Lib.hid (fun (e : Ending) => rcrash_after (e := e) hd hm)
          have HE := Lib.hid (show (⟨crTo keep torn (clamp octets) s.S s.ws k, [], -1⟩ : DSt) = s.crash keep torn octets by unfold DSt.crash; rw [show s.ws.length = k by have := HK.out; omega])
          clear hd hm
          go_wp2_with fail
          go_end0
          rw [← HE.out]
          exact HP.out _
end Go.Proofs.Ytjmehamkpmimkaa

namespace Go.Proofs.Ytjmehamkpmimkaa
open Go.RowKit

/-- The number that octets are, the highest first. -/
def beVal (l : List UInt8) : Nat := l.foldl (fun n c => n * 256 + c.toNat) 0
theorem u64_join8 (V : Nat) (x : UInt8) (h : V < 72057594037927936) : bits .or .u64 ((V : Int) * 256) (IntKind.u64.wrap (x.toNat : Int)) = ((V * 256 + x.toNat : Nat) : Int) := by
  have hx := x.toNat_lt
  rw [wraps_u64 _ (by omega) (by omega), bits_join .u64 64 (by decide) (fun n h0 h1 => wraps_u64 n h0 h1) 8 _ _ (by omega) (by omega) (by omega) (by omega) (by omega) (by omega)]
  omega
theorem beVal_snoc (l : List UInt8) (c : UInt8) : beVal (l ++ [c]) = beVal l * 256 + c.toNat := by simp [beVal]
theorem beVal_lt (l : List UInt8) : beVal l < 256 ^ l.length := by
  have key : ∀ (l : List UInt8) (a : Nat), l.foldl (fun n c => n * 256 + c.toNat) a < (a + 1) * 256 ^ l.length := by
    intro l
    induction l with
    | nil => intro a; simp
    | cons c l ih =>
      intro a
      have h1 := ih (a * 256 + c.toNat)
      have h2 := c.toNat_lt
      have h3 : (a * 256 + c.toNat + 1) * 256 ^ l.length ≤ ((a + 1) * 256) * 256 ^ l.length := Nat.mul_le_mul_right _ (by omega)
      rw [List.foldl_cons, List.length_cons, Nat.pow_succ, Nat.mul_comm (256 ^ l.length), ← Nat.mul_assoc]
      omega
  have := key l 0
  simpa [beVal] using this

/-- What is left, and the error. -/
abbrev RSt := List UInt8 × Int
def rGet (size : Nat) (s : RSt) : Nat × RSt × Bool := if s.2 = 0 then (if s.1.length < size then (0, (s.1, 10), false) else (beVal (s.1.take size), s, true)) else (0, s, false)
def rNum (s : RSt) : Nat × RSt := if s.2 = 0 then (if s.1.length < 4 then (0, (s.1, 10)) else if 2147483647 < beVal (s.1.take 4) then (0, (s.1, 11)) else (beVal (s.1.take 4), (s.1.drop 4, 0))) else (0, s)
def rInt (s : RSt) : Int × RSt := if s.2 = 0 then (if s.1.length < 8 then (0, (s.1, 10)) else (wrap64 (beVal (s.1.take 8) : Nat), (s.1.drop 8, 0))) else (0, s)
def rText (s : RSt) : List UInt8 × RSt := if (rNum s).2.2 = 0 then (if (rNum s).2.1.length < (rNum s).1 then ([], (s.1, 10)) else ((rNum s).2.1.take (rNum s).1, ((rNum s).2.1.drop (rNum s).1, 0))) else ([], (s.1, (rNum s).2.2))
def rLoop : Nat → RSt → List (List UInt8) × RSt
  | 0, s => ([], s)
  | n + 1, s => if s.2 = 0 then ((rText s).1 :: (rLoop n (rText s).2).1, (rLoop n (rText s).2).2) else ([], s)
def rTexts (s : RSt) : List (List UInt8) × RSt :=
  if (rNum s).2.2 = 0 then
    (if 1000000 < (rNum s).1 ∨ (rNum s).2.1.length < (rNum s).1 then ([], (s.1, 10)) else
      if (rLoop (rNum s).1 (rNum s).2).2.2 = 0 then rLoop (rNum s).1 (rNum s).2 else ([], (s.1, (rLoop (rNum s).1 (rNum s).2).2.2)))
  else ([], (s.1, (rNum s).2.2))

/-- A reader at g, its octets in blocks of S: what is left, its error. -/
def RdrAt (S : Nat → Prop) (w : World) (g : Nat) (s : RSt) : Prop :=
  ∃ A c, Blk w g 136 #[.slice A s.1.length c, .int .i64 s.2] ∧ s.1.length ≤ c ∧ c ≤ maxLen ∧ Rd S w A (s.1.map bv) ∧ ¬ S g

theorem RdrAt.keep {S F : Nat → Prop} {w w' : World} {g : Nat} {s : RSt} (h : RdrAt S w g s) (hm : Mod F w w') (hF : ∀ k, S k ∨ k = g → ¬ F k) : RdrAt S w' g s := by
  obtain ⟨A, c, h1, h2, h3, h4, h5⟩ := h
  exact ⟨A, c, h1.keep hm (hF g (.inr rfl)), h2, h3, h4.keep hm (fun k hk => hF k (.inl hk)), h5⟩
theorem RdrAt.keep0 {S : Nat → Prop} {w w' : World} {g : Nat} {s : RSt} (h : RdrAt S w g s) (hm : Mod Nil w w') : RdrAt S w' g s := h.keep hm (fun _ _ => id)
theorem RdrAt.lt {S : Nat → Prop} {w : World} {g : Nat} {s : RSt} (h : RdrAt S w g s) : g < w.heap.size := by
  obtain ⟨A, c, h1, _, _, _, _⟩ := h
  exact h1.lt

/-- What a call on a reader leaves. -/
def RdrPost (S : Nat → Prop) (g : Nat) (w : World) (s : RSt) (e : Ending) (r : Ending) (w' : World) : Prop := r = e ∧ RdrAt S w' g s ∧ Mod (fun k => k = g) w w'

theorem rd_far {S : Nat → Prop} {w : World} {A : Option Addr} {xs : List Value} {g i : Nat} {v : Value} (h : Rd S w A xs) (hS : ∀ k, S k → k ≠ g) : Rd S (w.setCell ⟨g, i, none⟩ v) A xs :=
  h.keep ((Mod.refl (fun k => k = g) w).set (p := ⟨g, i, none⟩) (.inl rfl) v) hS

theorem ropen_any (A : Option Addr) (n c : Nat) (l : List UInt8) (w : World) (hl : l.length = n) (hn : n ≤ 1000000000) (hr : Rd All w A (l.map bv)) :
    Calls Try.prog 73 #[.slice A n c] w fun r w' => ∃ (S : Nat → Prop) (g : Nat), r = .returned (.pointer (some ⟨g, 0, none⟩)) ∧ RdrAt S w' g (l, 0) ∧ (∀ k, S k ∨ k = g → w.heap.size ≤ k ∧ k < w'.heap.size) ∧ Mod Nil w w' := by
  have HR := Lib.hid hr
  have HL := Lib.hid hl
  clear hr hl
  go_enter Try.func73, Try.ntmps73
  go_wp2_with fail
  refine (clone_any _ A n c l _ HL.out (by omega) HR.out).mono ?_
  rintro r w1 ⟨v1, rfl, ho, hm⟩
  obtain ⟨A1, c1, rfl, hc1, hc2⟩ := own_slice ho
  have HO := Lib.hid ho
  have HM := Lib.hid hm
  clear ho hm
  go_wp2_with fail
  go_ret
  refine ⟨fun k => w.heap.size ≤ k ∧ k < w1.heap.size, _, rfl, ⟨A1, c1, ?_, ?_, hc2, ?_, fun h => by omega⟩, ?_, HM.out.alloc _⟩
  · show Blk _ _ _ #[.slice A1 l.length c1, .int .i64 0]
    rw [HL.out]
    exact Blk.new _ _ _
  · show l.length ≤ _; rw [HL.out]; exact hc1
  · exact ((Rd.of_own HO.out).mono (S' := fun k => w.heap.size ≤ k ∧ k < w1.heap.size) (fun b hb hB => ⟨hB, hb⟩)).keep0 ((Mod.refl Nil w1).alloc _)
  · intro k hk
    have := HM.out.size
    simp
    omega

theorem rerr_any (S : Nat → Prop) (g : Nat) (s : RSt) (w : World) (h : RdrAt S w g s) :
    Calls Try.prog 75 #[.pointer (some ⟨g, 0, none⟩)] w fun r w' => r = .returned (.int .i64 s.2) ∧ w = w' := by
  obtain ⟨A, c, h1, _, _, _, _⟩ := h
  have hc1 := h1.cell 1
  clear h1
  go_enter Try.func75, Try.ntmps75
  go_wp2_with fail
  go_ret
  exact ⟨rfl, rfl⟩

def rEnd (s : RSt) : Int := if s.2 = 0 ∧ 0 < s.1.length then 11 else s.2
theorem RdrAt.err {S : Nat → Prop} {g : Nat} {w : World} {s : RSt} (h : RdrAt S w g s) (e : Int) : RdrAt S (w.setCell ⟨g, 1, none⟩ (.int .i64 e)) g (s.1, e) := by
  obtain ⟨A, c, h1, h2, h3, h4, h5⟩ := h
  exact ⟨A, c, by simpa using h1.set_ 1 (.int .i64 e), h2, h3, rd_far h4 (fun k hk hkg => h5 (hkg ▸ hk)), h5⟩

theorem rfail_any (S : Nat → Prop) (g : Nat) (s : RSt) (e : Int) (w : World) (h : RdrAt S w g s) :
    Calls Try.prog 94 #[.pointer (some ⟨g, 0, none⟩), .int .i64 e] w (RdrPost S g w (if s.2 = 0 then (s.1, e) else s) (.returned (.tuple #[]))) := by
  have H := Lib.hid h
  obtain ⟨A, c, h1, hc, hm, _, _⟩ := h
  have hc1 := h1.cell 1
  have hf1 := h1.frozen 1
  have hgl := h1.lt
  clear h1
  by_cases he : s.2 = 0
  · rw [if_pos he]
    rw [he] at hc1
    clear he
    go_enter Try.func94, Try.ntmps94
    go_wp2_with fail
    go_end0
    exact ⟨rfl, H.out.err e, (Mod.refl (fun k => k = g) w).set (p := ⟨g, 1, none⟩) (.inl rfl) _⟩
  · rw [if_neg he]
    have he0 : (s.2 == 0) = false := by simp [he]
    have HE := Lib.hid he
    clear he
    go_enter Try.func94, Try.ntmps94
    go_wp2_with fail
    go_end0
    exact ⟨rfl, H.out, Mod.refl _ _⟩


set_option maxHeartbeats 1600000 in
set_option maxRecDepth 100000 in
theorem rget_any (S : Nat → Prop) (g : Nat) (s : RSt) (size : Nat) (w : World) (h : RdrAt S w g s) (hs : size ≤ 8) :
    Calls Try.prog 93 #[.pointer (some ⟨g, 0, none⟩), .int .i64 (size : Int)] w (RdrPost S g w (rGet size s).2.1 (.returned (.tuple #[.int .u64 ((rGet size s).1 : Nat), .bool (rGet size s).2.2]))) := by
  have H := Lib.hid h
  have HF := Lib.hid (rfail_any S g s 10 w h)
  obtain ⟨A, c, h1, hc, hm, hr, _⟩ := h
  have hc0 := h1.cell 0
  have hc1 := h1.cell 1
  have hgl := h1.lt
  have HR := Lib.hid hr
  unfold maxLen at hm
  clear h1 hr
  obtain ⟨l, e⟩ := s
  replace hc : l.length ≤ c := hc
  replace hc0 : w.cell? ⟨g, 0, none⟩ = some (.slice A l.length c) := hc0
  replace hc1 : w.cell? ⟨g, 1, none⟩ = some (.int .i64 e) := hc1
  by_cases he : e = 0
  · subst he
    by_cases hl : l.length < size
    · have HG := Lib.hid (show rGet size (l, 0) = (0, (l, 10), false) by simp [rGet, hl])
      rw [HG.out]
      go_enter Try.func93, Try.ntmps93
      go_wp2_with fail
      refine HF.out.mono ?_
      rintro r w1 ⟨rfl, hd, hm1⟩
      have HD := Lib.hid hd
      have HM := Lib.hid hm1
      clear hd hm1
      go_wp2_with fail
      go_ret2
      exact ⟨rfl, HD.out, HM.out⟩
    · have HG := Lib.hid (show rGet size (l, 0) = (beVal (l.take size), (l, 0), true) by simp [rGet, hl])
      rw [HG.out]
      have hlen : (l.take size).length = size := by rw [List.length_take]; omega
      have HT := Lib.hid (HR.out.take size)
      rw [← List.map_take] at HT
      have HLEN := Lib.hid hlen
      clear hlen
      go_enter Try.func93, Try.ntmps93
      go_wp2_with fail
      go_loop [6, 32] (fun n i => ∃ k : Nat, k ≤ size ∧ i = .int .i64 k ∧ n = .int .u64 (beVal ((l.take size).take k) : Nat)) (fun _ i => size - (intOf i).toNat)
      case atStart => exact ⟨0, Nat.zero_le _, rfl, rfl⟩
      case round =>
        obtain ⟨k, hk, rfl, rfl⟩ := hrel
        by_cases hlt : k < size
        · obtain ⟨x, hx⟩ : ∃ x, (l.take size)[k]? = some x := ⟨_, List.getElem?_eq_getElem (by rw [HLEN.out]; exact hlt)⟩
          obtain ⟨ad, rfl, _, _, hcl⟩ := HT.out.at_ (k := k) (u := bv x) (by rw [List.getElem?_map, hx]; rfl)
          unfold bv at hcl
          have HN := Lib.hid (show beVal ((l.take size).take (k + 1)) = beVal ((l.take size).take k) * 256 + x.toNat by rw [List.take_add_one, hx]; exact beVal_snoc _ _)
          obtain ⟨V, hV⟩ : ∃ V, V = beVal ((l.take size).take k) := ⟨_, rfl⟩
          have hVl : V < 72057594037927936 := by
            have := beVal_lt ((l.take size).take k)
            rw [← hV] at this
            have h2 : ((l.take size).take k).length ≤ 7 := by rw [List.length_take]; omega
            have h3 : (256 : Nat) ^ ((l.take size).take k).length ≤ 256 ^ 7 := Nat.pow_le_pow_right (by omega) h2
            omega
          rw [← hV] at HN ⊢
          clear hx hV
          go_wp2_with fail
          have HV := Lib.hid (u64_join8 V x hVl)
          go_round
          case rel => exact ⟨k + 1, by omega, by go_num, by rw [HV.out, HN.out]⟩
          case measure => simp [intOf] <;> omega
        · have hfin : (l.take size).take k = l.take size := List.take_of_length_le (by rw [HLEN.out]; omega)
          rw [hfin]
          clear hfin
          go_wp2_with fail
          go_ret2
          exact ⟨rfl, H.out, Mod.refl _ _⟩
  · have HG := Lib.hid (show rGet size (l, e) = (0, (l, e), false) by simp [rGet, he])
    have he0 : (e == 0) = false := by simp [he]
    rw [HG.out]
    simp only [if_neg he] at HF
    have HE := Lib.hid he
    clear he
    go_enter Try.func93, Try.ntmps93
    go_wp2_with fail
    refine HF.out.mono ?_
    rintro r w1 ⟨rfl, hd, hm1⟩
    have HD := Lib.hid hd
    have HM := Lib.hid hm1
    clear hd hm1
    go_wp2_with fail
    go_ret2
    exact ⟨rfl, HD.out, HM.out⟩


theorem RdrAt.drop_ {S : Nat → Prop} {g : Nat} {w : World} {l : List UInt8} {A : Option Addr} {c k : Nat} (h : Blk w g 136 #[.slice A l.length c, .int .i64 0]) (hc : l.length ≤ c) (hm : c ≤ maxLen) (hr : Rd S w A (l.map bv)) (hB : ¬ S g) (hk : k ≤ l.length)
    (A' : Option Addr) (c' : Nat) (hA : (c = k ∧ A' = A ∧ c' = 0) ∨ (c ≠ k ∧ A' = A.map (·.add k) ∧ c' = c - k)) :
    RdrAt S (w.setCell ⟨g, 0, none⟩ (.slice A' (l.length - k) c')) g (l.drop k, 0) := by
  have hA2 : A' = (if c = k then A else A.map (·.add k)) ∧ c' = c - k := by
    rcases hA with ⟨rfl, rfl, rfl⟩ | ⟨h, rfl, rfl⟩
    · exact ⟨by rw [if_pos rfl], by omega⟩
    · exact ⟨by rw [if_neg h], rfl⟩
  obtain ⟨rfl, rfl⟩ := hA2
  refine ⟨_, c - k, by simpa using h.set_ 0 _, by simp; omega, by omega, ?_, hB⟩
  have := rd_far (g := g) (i := 0) (v := .slice (if c = k then A else A.map (·.add k)) (l.length - k) (c - k)) hr (fun k hk hkg => hB (hkg ▸ hk))
  have h2 := this.cut (k := k) (cap := c) (by simpa using hk) (by simpa using hc)
  rw [← List.map_drop] at h2
  exact h2

set_option maxHeartbeats 1600000 in
set_option maxRecDepth 100000 in
theorem rnum_any (S : Nat → Prop) (g : Nat) (s : RSt) (w : World) (h : RdrAt S w g s) :
    Calls Try.prog 74 #[.pointer (some ⟨g, 0, none⟩)] w (RdrPost S g w (rNum s).2 (.returned (.int .i64 ((rNum s).1 : Nat)))) := by
  have HG := Lib.hid (rget_any S g s 4 w h (by omega))
  by_cases he : s.2 = 0
  · obtain ⟨l, e⟩ := s
    obtain rfl : e = 0 := he
    by_cases hl : l.length < 4
    · have HE := Lib.hid (show rNum (l, 0) = (0, (l, 10)) by simp [rNum, hl])
      rw [show rGet 4 (l, 0) = (0, (l, 10), false) by simp [rGet, hl]] at HG
      rw [HE.out]
      go_enter Try.func74, Try.ntmps74
      go_wp2_with fail
      refine HG.out.mono ?_
      rintro r w1 ⟨rfl, hd, hm1⟩
      have HD := Lib.hid hd
      have HM := Lib.hid hm1
      clear hd hm1
      go_wp2_with fail
      go_ret
      exact ⟨rfl, HD.out, HM.out⟩
    · rw [show rGet 4 (l, 0) = (beVal (l.take 4), (l, 0), true) by simp [rGet, hl]] at HG
      obtain ⟨V, hV⟩ : ∃ V, V = beVal (l.take 4) := ⟨_, rfl⟩
      have hVl : V < 4294967296 := by
        have := beVal_lt (l.take 4)
        rw [← hV] at this
        have h2 : (l.take 4).length ≤ 4 := by rw [List.length_take]; omega
        have h3 : (256 : Nat) ^ (l.take 4).length ≤ 256 ^ 4 := Nat.pow_le_pow_right (by omega) h2
        omega
      rw [← hV] at HG
      by_cases hv : 2147483647 < V
      · have HE := Lib.hid (show rNum (l, 0) = (0, (l, 11)) by simp [rNum, hl, ← hV, hv])
        rw [HE.out]
        clear hV
        go_enter Try.func74, Try.ntmps74
        go_wp2_with fail
        refine HG.out.mono ?_
        rintro r w1 ⟨rfl, hd, hm1⟩
        have HD := Lib.hid hd
        have HM := Lib.hid hm1
        clear hd hm1
        go_wp2_with fail
        refine (rfail_any S g (l, 0) 11 _ HD.out).mono ?_
        rintro r w2 ⟨rfl, hd, hm2⟩
        have HD2 := Lib.hid hd
        have HM2 := Lib.hid hm2
        clear hd hm2
        go_wp2_with fail
        go_ret
        exact ⟨rfl, HD2.out, HM.out.trans HM2.out⟩
      · have HE := Lib.hid (show rNum (l, 0) = (V, (l.drop 4, 0)) by simp [rNum, hl, ← hV, hv])
        rw [HE.out]
        clear hV
        go_enter Try.func74, Try.ntmps74
        go_wp2_with fail
        refine HG.out.mono ?_
        rintro r w1 ⟨rfl, hd, hm1⟩
        obtain ⟨A1, c1, h1, hc1, hm, hr1, hB⟩ := hd
        replace h1 : Blk w1 g 136 #[.slice A1 l.length c1, .int .i64 0] := h1
        replace hc1 : l.length ≤ c1 := hc1
        replace hr1 : Rd S w1 A1 (l.map bv) := hr1
        have hcell := h1.cell 0
        have hfr := h1.frozen 0
        have hgl := h1.lt
        have HD := Lib.hid (RdrAt.drop_ (k := 4) h1 hc1 hm hr1 hB (by omega))
        have HM := Lib.hid hm1
        unfold maxLen at hm
        clear h1 hr1 hm1
        go_wp2_with fail
        all_goals
          go_ret
          exact ⟨rfl, HD.out _ _ (by first | exact .inr ⟨by omega, rfl, rfl⟩ | exact .inl ⟨by omega, rfl, rfl⟩), HM.out.set (p := ⟨g, 0, none⟩) (.inl rfl) _⟩
  · rw [show rGet 4 s = (0, s, false) by simp [rGet, he]] at HG
    have HE := Lib.hid (show rNum s = (0, s) by simp [rNum, he])
    rw [HE.out]
    clear he
    go_enter Try.func74, Try.ntmps74
    go_wp2_with fail
    refine HG.out.mono ?_
    rintro r w1 ⟨rfl, hd, hm1⟩
    have HD := Lib.hid hd
    have HM := Lib.hid hm1
    clear hd hm1
    go_wp2_with fail
    go_ret
    exact ⟨rfl, HD.out, HM.out⟩

end Go.Proofs.Ytjmehamkpmimkaa

namespace Go.Proofs.Ytjmehamkpmimkaa
open Go.RowKit

theorem Mod.fresh {B : Nat} {a b : World} (h : Mod (fun k => B ≤ k) a b) (hB : a.heap.size ≤ B) : Mod Nil a b := h.mono fun i hi hk => by omega

theorem wr_new (w : World) : WrAt w.heap.size (w.alloc (.cells #[.slice none 0 0, .int .i64 0] 131)) w.heap.size (.slice none 0 0) ([], 0) :=
  ⟨Blk.new _ _ _, World.ownsRow_nil _ _ _ _, Nat.le_refl _⟩

theorem awake1_example : wText [97, 98] (wNum 258 ([], 0)) = ([0, 0, 1, 2, 0, 0, 0, 2, 97, 98], 0) := by decide +kernel

end Go.Proofs.Ytjmehamkpmimkaa

namespace Go.Proofs.Ytjmehamkpmimkaa
open Go.RowKit

set_option maxHeartbeats 1600000 in
set_option maxRecDepth 100000 in
theorem refOctets_any (x size : Nat) (w : World) (hx : x < 18446744073709551616) (hs : size ≤ 8) :
    Calls Try.prog 103 #[.int .u64 (x : Int), .int .i64 (size : Int)] w fun r w' => r = .returned (.string (str (beBytes size x))) ∧ Mod Nil w w' := by
  have HX := Lib.hid hx
  clear hx
  go_enter Try.func103, Try.ntmps103
  go_wp2_with fail
  go_loopw [0, 5, 6] (fun n s i wr => ∃ k : Nat, k ≤ size ∧ i = .int .i64 k ∧ n = .int .u64 ((x / 256 ^ k : Nat) : Int) ∧ s = .string (str (beBytes k x)) ∧ Mod Nil w wr) (fun _ _ i _ => size - (intOf i).toNat)
  case atStart => exact ⟨0, Nat.zero_le _, rfl, by simp, rfl, Mod.refl _ _⟩
  case round =>
    obtain ⟨k, hk, rfl, rfl, rfl, hm⟩ := hrel
    have HM := Lib.hid hm
    clear hm
    by_cases hlt : k < size
    · obtain ⟨y, hy⟩ : ∃ y, y = x / 256 ^ k := ⟨_, rfl⟩
      have hyl : y < 18446744073709551616 := by rw [hy]; exact Nat.lt_of_le_of_lt (Nat.div_le_self _ _) HX.out
      have hb : Value.int IntKind.u8 ((y : Int) % 256) = bv (UInt8.ofNat y) := by simp [bv]
      have hrd := Rd.cells1 wr (bv (UInt8.ofNat y)) 5
      rw [← hb] at hrd
      have kb := conv_bytes (l := [UInt8.ofNat y]) (n := 1) (by rw [List.map_cons, List.map_nil, ← hb]; exact hrd) rfl 1
      rw [← hy]
      have hnext : x / 256 ^ (k + 1) = y / 256 := by rw [hy, Nat.div_div_eq_div_mul, Nat.pow_succ]
      have hcat : str [UInt8.ofNat y] ++ str (beBytes k x) = str (beBytes (k + 1) x) := by rw [str_append, beBytes, ← hy]; rfl
      have hs1 : (str [UInt8.ofNat y]).size = 1 := rfl
      have hs2 : (str (beBytes k x)).size = k := by rw [str_size, beBytes_len]
      have HY := Lib.hid hyl
      have HNX := Lib.hid hnext
      clear hb hrd hy hyl hnext
      go_wp2_with fail
      go_roundw
      case rel => exact ⟨k + 1, by omega, by go_num, by rw [HNX.out, IntWalk.u64_in _ (by have := HY.out; omega)]; simp, rfl, HM.out.alloc _⟩
      case measure => simp [intOf] <;> omega
    · obtain rfl : k = size := by omega
      go_wp2_with fail
      go_ret
      exact ⟨rfl, HM.out⟩

/-- What numbers and texts are written as. -/
def encNum (n : Int) : List UInt8 := if n < 0 ∨ 2147483647 < n then [] else beBytes 4 n.toNat
def encInt (n : Int) : List UInt8 := beBytes 8 (bits64 n)
def encText (t : List UInt8) : List UInt8 := encNum t.length ++ t
def encTexts (l : List (List UInt8)) : List UInt8 := encNum l.length ++ (l.map encText).flatten
def okNum (n : Int) : Bool := !(n < 0) && !(2147483647 < n)

set_option maxHeartbeats 1600000 in
set_option maxRecDepth 100000 in
theorem refNum_any (n : Int) (w : World) :
    Calls Try.prog 91 #[.int .i64 n] w fun r w' => r = .returned (.tuple #[.string (str (encNum n)), .bool (okNum n)]) ∧ Mod Nil w w' := by
  by_cases hn : n < 0 ∨ 2147483647 < n
  · have h1 : encNum n = [] := by unfold encNum; rw [if_pos hn]
    have h2 : okNum n = false := by unfold okNum; rcases hn with h | h <;> simp [h]
    rw [h1, h2]
    clear h1 h2
    rcases hn with hn | hn
    · have hn' : ¬ 2147483647 < n := by omega
      go_enter Try.func91, Try.ntmps91
      go_wp2_with fail
      go_ret2
      exact ⟨rfl, Mod.refl _ _⟩
    · have hn' : ¬ n < 0 := by omega
      go_enter Try.func91, Try.ntmps91
      go_wp2_with fail
      go_ret2
      exact ⟨rfl, Mod.refl _ _⟩
  · have h1 : encNum n = beBytes 4 n.toNat := by unfold encNum; rw [if_neg hn]
    have h2 : okNum n = true := by unfold okNum; simp; omega
    rw [h1, h2]
    clear h1 h2
    obtain ⟨k, rfl⟩ := Int.eq_ofNat_of_zero_le (show 0 ≤ n by omega)
    rw [Int.toNat_natCast]
    have hk : k ≤ 2147483647 := by omega
    clear hn
    have HC := Lib.hid (refOctets_any k 4 w (by omega) (by omega))
    go_enter Try.func91, Try.ntmps91
    go_wp2_with fail
    refine HC.out.mono ?_
    rintro r w1 ⟨rfl, hm⟩
    have HM := Lib.hid hm
    clear hm
    go_wp2_with fail
    go_ret2
    exact ⟨rfl, HM.out⟩

theorem encNum_len (n : Int) : (encNum n).length ≤ 4 := by
  unfold encNum
  split <;> simp [beBytes_len]
theorem encText_len (t : List UInt8) : (encText t).length ≤ 4 + t.length := by
  have := encNum_len t.length
  simp [encText]; omega

end Go.Proofs.Ytjmehamkpmimkaa

namespace Go.Proofs.Ytjmehamkpmimkaa
open Go.RowKit

/-- What a field is written as; whether it can be. -/
def encFld (f : Fld) : List UInt8 := if f.kind = 0 then encNum f.n else if f.kind = 1 then encInt f.n else if f.kind = 2 then encText f.s.data.toList else encTexts (octs f.l)
def okFld (f : Fld) : Bool := if f.kind = 0 then okNum f.n else true
def fldW (f : Fld) (s : WSt) : WSt := if f.kind = 0 then wNum f.n s else if f.kind = 1 then wInt f.n s else if f.kind = 2 then wText f.s.data.toList s else wTexts (octs f.l) s
def errOf (ok : Bool) : Int := if ok then 0 else 2

theorem wNum_step (n : Int) (out : List UInt8) (ok : Bool) : wNum n (out, errOf ok) = (if ok && okNum n then out ++ encNum n else out, errOf (ok && okNum n)) := by
  unfold wNum
  split
  · rename_i h
    have : okNum n = false := by unfold okNum; rcases h with h | h <;> simp [h]
    rw [this]
    simp [errOf]
  · rename_i h
    have h2 : okNum n = true := by unfold okNum; simp; omega
    have h3 : encNum n = beBytes 4 n.toNat := by unfold encNum; rw [if_neg h]
    rw [h2, h3]
    cases ok <;> simp [wPut, errOf]
theorem wInt_step (n : Int) (out : List UInt8) (ok : Bool) : wInt n (out, errOf ok) = (if ok then out ++ encInt n else out, errOf ok) := by
  cases ok <;> simp [wInt, wPut, errOf, encInt]
theorem okNum_nat (n : Nat) (h : n ≤ 2147483647) : okNum n = true := by unfold okNum; simp; omega
theorem wText_step (t : List UInt8) (out : List UInt8) (ok : Bool) (h : t.length ≤ 2147483647) : wText t (out, errOf ok) = (if ok then out ++ encText t else out, errOf ok) := by
  unfold wText
  rw [wNum_step, okNum_nat _ h]
  cases ok <;> simp [errOf, encText]
theorem wTexts_step (l : List (List UInt8)) (out : List UInt8) (ok : Bool) (h : l.length ≤ 2147483647) (hl : ∀ t ∈ l, t.length ≤ 2147483647) : wTexts l (out, errOf ok) = (if ok then out ++ encTexts l else out, errOf ok) := by
  unfold wTexts
  rw [wNum_step, okNum_nat _ h, Bool.and_true]
  have key : ∀ (m : List (List UInt8)) (o : List UInt8), (∀ t ∈ m, t.length ≤ 2147483647) → m.foldl (fun s t => wText t s) (o, errOf ok) = (if ok then o ++ (m.map encText).flatten else o, errOf ok) := by
    intro m
    induction m with
    | nil => intro o _; cases ok <;> simp
    | cons t m ih =>
      intro o hm
      rw [List.foldl_cons, wText_step t o ok (hm t (by simp)), ih _ (fun u hu => hm u (by simp [hu]))]
      cases ok <;> simp
  rw [key l _ hl]
  cases ok <;> simp [encTexts]

theorem fldW_step (f : Fld) (out : List UInt8) (ok : Bool) (h : fldSmall f = true) : fldW f (out, errOf ok) = (if ok && okFld f then out ++ encFld f else out, errOf (ok && okFld f)) := by
  simp only [fldSmall, Bool.and_eq_true, decide_eq_true_eq, List.all_eq_true] at h
  obtain ⟨⟨h1, h2⟩, h3⟩ := h
  have hs : f.s.data.toList.length = f.s.size := Array.length_toList
  unfold fldW okFld encFld
  split
  · exact wNum_step _ _ _
  · split
    · rw [wInt_step, Bool.and_true]
    · split
      · rw [wText_step _ _ _ (by omega), Bool.and_true]
      · rw [wTexts_step _ _ _ (by rw [octs, List.length_map]; omega) (fun t ht => by
          obtain ⟨u, hu, rfl⟩ := List.mem_map.1 ht
          have := h3 u hu
          have h4 : u.data.toList.length = u.size := Array.length_toList
          omega), Bool.and_true]

theorem FldsAt.low {w : World} {A : Option Addr} {fs : List Fld} (h : FldsAt All w A fs) : FldsAt (fun b => b < w.heap.size) w A fs := fun hn => by
  obtain ⟨b, o, e, _, hb, hf⟩ := h hn
  refine ⟨b, o, e, hb, hb, fun i f hi => ?_⟩
  obtain ⟨h0, h1, h2, B, c, h3, h4, h5, h6, h7⟩ := hf i f hi
  refine ⟨h0, h1, h2, B, c, h3, h4, h5, h6, fun hl => ?_⟩
  obtain ⟨ad, e', _, hb', hc⟩ := h7 hl
  exact ⟨ad, e', hb', hb', hc⟩

theorem encTexts_len (l : List (List UInt8)) (M : Nat) (h : ∀ t ∈ l, t.length ≤ M) : (encTexts l).length ≤ 4 + l.length * (4 + M) := by
  have h0 := encNum_len l.length
  have key : ∀ m : List (List UInt8), (∀ t ∈ m, t.length ≤ M) → ((m.map encText).flatten).length ≤ m.length * (4 + M) := by
    intro m
    induction m with
    | nil => intro _; simp
    | cons t m ih =>
      intro hm
      have h1 := ih fun u hu => hm u (by simp [hu])
      have h2 := encText_len t
      have h3 := hm t (by simp)
      rw [List.map_cons, List.flatten_cons, List.length_append, List.length_cons, Nat.add_mul]
      omega
  have := key l h
  rw [encTexts, List.length_append]
  omega
theorem encFld_len (f : Fld) (h : fldSmall f = true) : (encFld f).length ≤ 3000 := by
  simp only [fldSmall, Bool.and_eq_true, decide_eq_true_eq, List.all_eq_true] at h
  obtain ⟨⟨h1, h2⟩, h3⟩ := h
  have hs : f.s.data.toList.length = f.s.size := Array.length_toList
  unfold encFld
  split
  · have := encNum_len f.n; omega
  · split
    · simp [encInt, beBytes_len]
    · split
      · have := encText_len f.s.data.toList; omega
      · have := encTexts_len (octs f.l) 100 (fun t ht => by
          obtain ⟨u, hu, rfl⟩ := List.mem_map.1 ht
          have := h3 u hu
          have h4 : u.data.toList.length = u.size := Array.length_toList
          omega)
        have h5 : (octs f.l).length ≤ 20 := by rw [octs, List.length_map]; exact h2
        have h6 : (octs f.l).length * (4 + 100) ≤ 20 * 104 := Nat.mul_le_mul_right _ h5
        omega

end Go.Proofs.Ytjmehamkpmimkaa

namespace Go.Proofs.Ytjmehamkpmimkaa
open Go.RowKit

theorem rNum_app (x t : List UInt8) (h : (rNum (x, 0)).2.2 = 0) : rNum (x ++ t, 0) = ((rNum (x, 0)).1, ((rNum (x, 0)).2.1 ++ t, 0)) := by
  have hx : ¬ x.length < 4 := fun hc => by unfold rNum at h; simp [hc] at h
  have e1 : (x ++ t).take 4 = x.take 4 := List.take_append_of_le_length (by omega)
  have e2 : (x ++ t).drop 4 = x.drop 4 ++ t := List.drop_append_of_le_length (by omega)
  have hv : ¬ 2147483647 < beVal (x.take 4) := fun hc => by unfold rNum at h; simp [hx, hc] at h
  have hl : ¬ (x ++ t).length < 4 := by rw [List.length_append]; omega
  unfold rNum
  simp only [e1, e2, if_neg hx, if_neg hv, if_neg hl, if_true]
theorem rInt_app (x t : List UInt8) (h : (rInt (x, 0)).2.2 = 0) : rInt (x ++ t, 0) = ((rInt (x, 0)).1, ((rInt (x, 0)).2.1 ++ t, 0)) := by
  have hx : ¬ x.length < 8 := fun hc => by unfold rInt at h; simp [hc] at h
  have e1 : (x ++ t).take 8 = x.take 8 := List.take_append_of_le_length (by omega)
  have e2 : (x ++ t).drop 8 = x.drop 8 ++ t := List.drop_append_of_le_length (by omega)
  have hl : ¬ (x ++ t).length < 8 := by rw [List.length_append]; omega
  unfold rInt
  simp only [e1, e2, if_neg hx, if_neg hl, if_true]
theorem rText_app (x t : List UInt8) (h : (rText (x, 0)).2.2 = 0) : rText (x ++ t, 0) = ((rText (x, 0)).1, ((rText (x, 0)).2.1 ++ t, 0)) := by
  have h0 : (rNum (x, 0)).2.2 = 0 := by
    by_cases hc : (rNum (x, 0)).2.2 = 0
    · exact hc
    · unfold rText at h; rw [if_neg hc] at h; exact h
  have hx : ¬ (rNum (x, 0)).2.1.length < (rNum (x, 0)).1 := fun hc => by unfold rText at h; simp [h0, hc] at h
  have hl : ¬ ((rNum (x, 0)).2.1 ++ t).length < (rNum (x, 0)).1 := by rw [List.length_append]; omega
  unfold rText
  rw [rNum_app x t h0]
  simp only [if_neg hx, if_neg hl, h0, if_true]
  rw [List.take_append_of_le_length (by omega), List.drop_append_of_le_length (by omega)]

theorem rNum_err (s : RSt) (h : s.2 ≠ 0) : rNum s = (0, s) := by unfold rNum; rw [if_neg h]
theorem rNum_len (s : RSt) : (rNum s).2.1.length ≤ s.1.length := by
  unfold rNum
  split
  · split
    · exact Nat.le_refl _
    · split
      · exact Nat.le_refl _
      · simp
  · exact Nat.le_refl _
theorem rInt_len (s : RSt) : (rInt s).2.1.length ≤ s.1.length := by
  unfold rInt
  split
  · split
    · exact Nat.le_refl _
    · simp
  · exact Nat.le_refl _
theorem rText_len (s : RSt) : (rText s).2.1.length ≤ s.1.length := by
  have := rNum_len s
  unfold rText
  split
  · split
    · exact Nat.le_refl _
    · simp; omega
  · exact Nat.le_refl _
theorem rNum_le (s : RSt) : (rNum s).1 ≤ 2147483647 := by
  unfold rNum
  split
  · split
    · exact Nat.zero_le _
    · split
      · exact Nat.zero_le _
      · simp only []; omega
  · exact Nat.zero_le _

theorem beVal_be (k x : Nat) : beVal (beBytes k x) = x % 256 ^ k := by
  have key : ∀ (k : Nat) (a : Nat), (beBytes k x).foldl (fun n c => n * 256 + c.toNat) a = a * 256 ^ k + x % 256 ^ k := by
    intro k
    induction k with
    | zero => intro a; simp [beBytes]; omega
    | succ k ih =>
      intro a
      rw [beBytes, List.foldl_cons, ih, UInt8.toNat_ofNat']
      have h1 : x % 256 ^ (k + 1) = 256 ^ k * (x / 256 ^ k % 256) + x % 256 ^ k := by
        rw [Nat.pow_succ, Nat.mod_mul, Nat.add_comm]
      have h2 : a * 256 ^ (k + 1) = a * 256 * 256 ^ k := by rw [Nat.pow_succ, Nat.mul_comm (256 ^ k), Nat.mul_assoc]
      have h3 : 256 ^ k * (x / 256 ^ k % 256) = x / 256 ^ k % 2 ^ 8 * 256 ^ k := Nat.mul_comm _ _
      rw [h1, h2, h3, Nat.add_mul]
      omega
  have := key k 0
  simpa [beVal] using this

theorem rNum_enc (n : Int) (t : List UInt8) (h : okNum n = true) : rNum (encNum n ++ t, 0) = (n.toNat, (t, 0)) := by
  unfold okNum at h
  simp at h
  have e : encNum n = beBytes 4 n.toNat := by unfold encNum; rw [if_neg (by omega)]
  have hl : (encNum n).length = 4 := by rw [e, beBytes_len]
  have e1 : (encNum n ++ t).take 4 = encNum n := List.take_left' hl
  have e2 : (encNum n ++ t).drop 4 = t := List.drop_left' hl
  have hv : beVal (encNum n) = n.toNat := by rw [e, beVal_be]; exact Nat.mod_eq_of_lt (by omega)
  have hs : ¬ (encNum n ++ t).length < 4 := by rw [List.length_append]; omega
  unfold rNum
  simp only [e1, e2, hv, if_neg hs, if_true]
  rw [if_neg (by omega)]
theorem rInt_enc (n : Int) (t : List UInt8) (h1 : -9223372036854775808 ≤ n) (h2 : n ≤ 9223372036854775807) : rInt (encInt n ++ t, 0) = (n, (t, 0)) := by
  have hl : (encInt n).length = 8 := beBytes_len _ _
  have e1 : (encInt n ++ t).take 8 = encInt n := List.take_left' hl
  have e2 : (encInt n ++ t).drop 8 = t := List.drop_left' hl
  have hv : beVal (encInt n) = bits64 n := by unfold encInt; rw [beVal_be]; exact Nat.mod_eq_of_lt (bits64_lt n)
  have hs : ¬ (encInt n ++ t).length < 8 := by rw [List.length_append]; omega
  have hw : wrap64 ((bits64 n : Nat) : Int) = n := by
    unfold wrap64 bits64
    omega
  unfold rInt
  simp only [e1, e2, hv, if_neg hs, if_true, hw]
theorem rText_enc (x t : List UInt8) (h : x.length ≤ 2147483647) : rText (encText x ++ t, 0) = (x, (t, 0)) := by
  have hn := rNum_enc x.length (x ++ t) (okNum_nat _ h)
  unfold rText encText
  rw [List.append_assoc, hn]
  simp
theorem rLoop_enc (l : List (List UInt8)) (t : List UInt8) (h : ∀ x ∈ l, x.length ≤ 2147483647) : rLoop l.length ((l.map encText).flatten ++ t, 0) = (l, (t, 0)) := by
  induction l with
  | nil => rfl
  | cons x l ih =>
    have e := rText_enc x ((l.map encText).flatten ++ t) (h x (by simp))
    rw [List.map_cons, List.flatten_cons, List.append_assoc, List.length_cons, rLoop, e, ih (fun y hy => h y (by simp [hy]))]
    rfl
theorem rTexts_enc (l : List (List UInt8)) (t : List UInt8) (hl : l.length ≤ 1000000) (h : ∀ x ∈ l, x.length ≤ 2147483647) : rTexts (encTexts l ++ t, 0) = (l, (t, 0)) := by
  have hn := rNum_enc l.length ((l.map encText).flatten ++ t) (okNum_nat _ (by omega))
  have key : ∀ m : List (List UInt8), (∀ x ∈ m, x.length ≤ 2147483647) → m.length ≤ ((m.map encText).flatten).length := by
    intro m
    induction m with
    | nil => intro _; simp
    | cons x m ih =>
      intro hm
      have h1 := ih fun y hy => hm y (by simp [hy])
      have h2 : encNum (x.length : Int) = beBytes 4 x.length := by
        have := hm x (by simp)
        unfold encNum
        rw [if_neg (by omega)]
        rfl
      rw [List.map_cons, List.flatten_cons, List.length_append, List.length_cons, encText, List.length_append, h2, beBytes_len]
      omega
  have hlen := key l h
  unfold rTexts encTexts
  rw [List.append_assoc, hn]
  have hneg : ¬ (1000000 < l.length ∨ ((l.map encText).flatten ++ t).length < l.length) := by rw [List.length_append]; omega
  simp only [Int.toNat_natCast, rLoop_enc l t h, if_true, if_neg hneg]
end Go.Proofs.Ytjmehamkpmimkaa
