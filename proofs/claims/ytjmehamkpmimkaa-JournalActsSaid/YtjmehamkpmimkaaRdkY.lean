/- Contracts of the document's disk: Read, Sync, Write. -/
import Derived.Test.YtjmehamkpmimkaaRdkX
namespace Go.Proofs.Ytjmehamkpmimkaa
open Go.RowKit

theorem RdkAt.imgLen {B : Nat} {w : World} {g : Nat} {F : Nat → Prop} {s : DSt} (h : RdkAt B w g F s) : s.img.length = s.S.length := by
  obtain ⟨vw, _, h⟩ := h
  exact imgOf_length (fun x hx => (h.fit x hx).1)

theorem rsync_after {B g : Nat} {F F1 : Nat → Prop} {s s1 : DSt} {w w1 w2 : World} {vw : Value} {e : Ending} (hd : RdkIs B w2 g vw s1) (hF : F1 = RF g vw)
    (hm1 : Mod F w w1) (hm2 : Mod Nil w1 w2) (hF1 : ∀ k, F1 k → F k ∨ w.heap.size ≤ k) (hlt : g < w1.heap.size) (hs : s1.img = s.img) :
    RdkPost B w g F ⟨s.img, [], s1.left⟩ e e ((w2.setCell ⟨g, 0, none⟩ (.string (str s.img))).setCell ⟨g, 1, none⟩ (.slice none 0 0)) := by
  have hlen : s1.img.length = s1.S.length := imgOf_length (fun x hx => (hd.fit x hx).1)
  have hm3 : Mod (fun k => k = g) w2 ((w2.setCell ⟨g, 0, none⟩ (.string (str s.img))).setCell ⟨g, 1, none⟩ (.slice none 0 0)) := ((Mod.refl (fun k => k = g) w2).set (p := ⟨g, 0, none⟩) (.inl rfl) _).set (p := ⟨g, 1, none⟩) (.inl rfl) _
  have hgF : F1 g := hF ▸ .inl rfl
  refine ⟨rfl, RF g (.slice none 0 0), ⟨.slice none 0 0, rfl, ?_, hd.low, World.ownsRow_nil _ _ _ _, fun x hx => (by cases hx), ?_⟩, ?_, ?_⟩
  · simpa using (hd.blk.set_ 0 (.string (str s.img))).set_ 1 (.slice none 0 0)
  · show s.img.length ≤ _
    rw [← hs, hlen]; exact hd.big
  · refine ((hm1.trans' hm2 (H := fun k => F k ∨ k = g) (fun _ _ h => .inl h) (fun _ _ h => h.elim)).trans' hm3 (H := fun k => F k ∨ k = g) (fun _ _ h => h) (fun k hk hkg => .inr hkg)).mono (fun k hk hkg => ?_)
    rcases hkg with h | rfl
    · exact h
    · exact (hF1 k hgF).resolve_right (by omega)
  · rintro k (rfl | hk)
    · exact hF1 k hgF
    · cases hk

set_option maxHeartbeats 1600000 in
set_option maxRecDepth 100000 in
theorem rdkSync_any (B g : Nat) (F : Nat → Prop) (s : DSt) (w : World) (h : RdkAt B w g F s) (hB : B ≤ w.heap.size) (hbig : s.ws.length ≤ 1000000) (hl : s.left ≤ 9223372036854775807) :
    Calls Try.prog 65 #[.pointer (some ⟨g, 0, none⟩)] w (RdkPost B w g F (if s.on then ⟨s.img, [], s.spend.left⟩ else s) (.returned (.int .i64 (if s.on then 0 else 20)))) := by
  have HC := Lib.hid (rdkOn_any B g F s w h hl)
  by_cases hon : s.on = true
  · rw [if_pos hon, if_pos hon]
    rw [hon] at HC
    go_enter Try.func65, Try.ntmps65
    go_wp2_with fail
    refine HC.out.mono ?_
    rintro r w1 ⟨rfl, F1, hd1, hm1, hF1⟩
    have HD1 := Lib.hid hd1
    have HM1 := Lib.hid hm1
    have HF1 := Lib.hid hF1
    clear hd1 hm1 hF1 h
    go_wp2_with fail
    refine (rdkImage_any B g F1 s.spend w1 HD1.out (by unfold DSt.spend; split <;> exact hbig)).mono ?_
    rintro r w2 ⟨rfl, hm2⟩
    rw [spend_img]
    obtain ⟨vw, hFF, hd⟩ := HD1.out.keep0 hm2
    have hc0 := hd.blk.cell 0
    have hc1 := hd.blk.cell 1
    have hf0 := hd.blk.frozen 0
    have hf1 := hd.blk.frozen 1
    have hgl := hd.blk.lt
    have HGL := Lib.hid (show g < w1.heap.size from (HD1.out.lt g (hFF ▸ .inl rfl)).2)
    have HM2 := Lib.hid hm2
    have HD := Lib.hid hd
    have HFF := Lib.hid hFF
    clear hm2 hd hFF
    go_wp2_with fail
    go_ret
    exact rsync_after HD.out HFF.out HM1.out HM2.out HF1.out HGL.out (spend_img s)
  · rw [if_neg hon, if_neg hon]
    have hon' : s.on = false := by simpa using hon
    rw [hon', spend_off hon'] at HC
    go_enter Try.func65, Try.ntmps65
    go_wp2_with fail
    refine HC.out.mono ?_
    rintro r w1 ⟨rfl, F1, hd1, hm1, hF1⟩
    have HD1 := Lib.hid hd1
    have HM1 := Lib.hid hm1
    have HF1 := Lib.hid hF1
    clear hd1 hm1 hF1 h
    go_wp2_with fail
    go_ret
    exact ⟨rfl, F1, HD1.out, HM1.out, HF1.out⟩

theorem rwrite_after {B g c1 c' k n : Nat} {A1 A' : Option Addr} {F F1 : Nat → Prop} {s1 : DSt} {w w1 w3 : World} {b : List UInt8} {e : Ending}
    (hd : RdkIs B w1 g (.slice A1 k c1) s1) (hF : F1 = RF g (.slice A1 k c1)) (hm1 : Mod F w w1) (hF1 : ∀ k, F1 k → F k ∨ w.heap.size ≤ k) (hm3 : Mod Nil w1 w3) (hk : s1.ws.length = k)
    (hown : w3.ownsRow B 106 2 (.slice A' (k + 1) c') (k + 1) (s1.ws.flatMap rwCells ++ [.int .i64 n, .string (str b)])) (hat : ∀ j, (Value.slice A' (k + 1) c').ownBlock = some j → w1.heap.size ≤ j)
    (hb : b.length = 64) (hfit : 64 * n + 64 ≤ s1.S.length) :
    RdkPost B w g F (s1.put n b) e e (w3.setCell ⟨g, 1, none⟩ (.slice A' (k + 1) c')) := by
  have hd3 := hd.keep hm3 (fun _ _ => id)
  have hgF : F1 g := hF ▸ .inl rfl
  have hgl := hd.blk.lt
  have hne : (Value.slice A' (k + 1) c').ownBlock ≠ some g := fun h => by have := hat g h; omega
  have hm4 : Mod (fun j => j = g) w3 (w3.setCell ⟨g, 1, none⟩ (.slice A' (k + 1) c')) := (Mod.refl (fun j => j = g) w3).set (p := ⟨g, 1, none⟩) (.inl rfl) _
  refine ⟨rfl, RF g (.slice A' (k + 1) c'), ⟨_, rfl, ?_, hd.low, ?_, ?_, hd.big⟩, ?_, ?_⟩
  · simpa [DSt.put] using hd3.blk.set_ 1 (.slice A' (k + 1) c')
  · have := own_keep hown hm4 (fun j hj hjg => hne (hjg ▸ hj))
    simpa [DSt.put, hk, rwCells] using this
  · intro x hx
    rcases List.mem_append.1 hx with hx | hx
    · exact hd.fit x hx
    · obtain rfl : x = (n, b) := by simpa using hx
      exact ⟨by show 64 * n + b.length ≤ s1.S.length; omega, hb⟩
  · refine ((hm1.trans' hm3 (H := fun k => F k ∨ k = g) (fun _ _ h => .inl h) (fun _ _ h => h.elim)).trans' hm4 (H := fun k => F k ∨ k = g) (fun _ _ h => h) (fun k hk hkg => .inr hkg)).mono (fun k hk hkg => ?_)
    rcases hkg with h | rfl
    · exact h
    · rcases hF1 k hgF with h | h
      · exact h
      · omega
  · rintro j (rfl | hj)
    · exact hF1 j hgF
    · exact .inr (by have := hat j hj; have := hm1.size; omega)

theorem rw_one (ws : List (Nat × List UInt8)) : ∀ u ∈ ws.flatMap rwCells, u.oneCell' = true := by
  intro u hu
  obtain ⟨x, _, hx⟩ := List.mem_flatMap.1 hu
  simp [rwCells] at hx
  rcases hx with rfl | rfl <;> rfl

theorem rw_info : (Try.prog.info? 106).map (fun i => (i.zero, i.size, i.bytes)) = some (some (.agg #[.int .i64 0, .string ⟨#[]⟩]), 2, 24) := by kernel_rfl

set_option maxHeartbeats 3200000 in
set_option maxRecDepth 100000 in
theorem rdkWrite_any (B g : Nat) (F : Nat → Prop) (s : DSt) (n : Int) (b : List UInt8) (w : World) (h : RdkAt B w g F s) (hB : B ≤ w.heap.size) (hbig : s.ws.length ≤ 1000000) (hl : s.left ≤ 9223372036854775807) (hbb : b.length ≤ 1000000000) :
    Calls Try.prog 28 #[.pointer (some ⟨g, 0, none⟩), .int .i64 n, .string (str b)] w (RdkPost B w g F (s.write n b).1 (.returned (.int .i64 (s.write n b).2))) := by
  have HT := Lib.hid (rdkThere_any B g F s n w h)
  have HH := Lib.hid h
  have hs := str_size b
  by_cases ht : s.there n = true
  · rw [ht] at HT
    by_cases hb : b.length = 64
    · have hn : 0 ≤ n := by unfold DSt.there at ht; simp at ht; exact ht.1
      obtain ⟨m, rfl⟩ := Int.eq_ofNat_of_zero_le hn
      have HO := Lib.hid (rdkOn_any B g F s w h hl)
      by_cases hon : s.on = true
      · have HE := Lib.hid (show s.write m b = (s.spend.put m b, 0) by unfold DSt.write; rw [if_pos ⟨ht, hb⟩, if_pos hon]; rfl)
        rw [hon] at HO
        rw [hb] at hs
        have hws : s.spend.ws.length ≤ 1000000 := by unfold DSt.spend; split <;> exact hbig
        have HTH := Lib.hid (DSt.there_fits ht)
        have HB := Lib.hid hb
        have HSS := Lib.hid (show s.spend.S = s.S by unfold DSt.spend; split <;> rfl)
        obtain ⟨i0, hi, hz0, hz1, hz2⟩ := info_parts rw_info
        clear h ht hb hbb hn
        go_enter Try.func28, Try.ntmps28
        go_wp2_with fail
        refine HT.out.mono ?_
        rintro r w0 ⟨rfl, rfl⟩
        go_wp2_with fail
        refine HO.out.mono ?_
        rintro r w1 ⟨rfl, F1, hd1, hm1, hF1⟩
        have HM1 := Lib.hid hm1
        have HF1 := Lib.hid hF1
        obtain ⟨vw, hFF, hd⟩ := hd1
        have hc1 := hd.blk.cell 1
        have hf1 := hd.blk.frozen 1
        have hgl := hd.blk.lt
        obtain ⟨A1, c1, rfl, hc1l, hc1b⟩ := own_slice hd.waits
        obtain ⟨k, hk⟩ : ∃ k, s.spend.ws.length = k := ⟨_, rfl⟩
        rw [hk] at hd hFF hc1 hc1l hws
        have HD := Lib.hid hd
        have HK := Lib.hid hk
        have HFF := Lib.hid hFF
        clear hm1 hF1 hd hFF hk
        have HCL := Lib.hid (show 0 < k → ∃ ad, A1 = some ad ∧ ∀ j u, (s.spend.ws.flatMap rwCells)[j]? = some u → (w1.alloc (.cells #[] 106)).cell? (ad.add j) = some u from fun hk0 => by
          obtain ⟨gw, cw, hgw, _, hgwl⟩ := HD.out.waits.form (by have := HK.out; omega)
          injection hgw with hC _ hdd
          subst hC hdd
          refine ⟨_, rfl, fun j u hu => ?_⟩
          have := HD.out.waits.cells (g := gw) rfl j u hu
          exact (((Mod.refl Nil w1).alloc _).cell (by rw [block_of_add]; exact hgwl) id).trans this)
        have HLEN := Lib.hid (show (s.spend.ws.flatMap rwCells).length = k * 2 by have := HD.out.waits.1; rw [HK.out] at this; exact this)
        have hB1 := Nat.le_trans hB HM1.out.size
        go_wp2_with (first
          | (at_builtin; refine wpList_append_k _ rfl (.tmp 20) (.tmp 24) 79 rfl B 106 i0 (.agg #[.int .i64 0, .string ⟨#[]⟩]) 2 24 Try.underlying79 hi hz0 hz1 hz2 rfl (by decide) (.slice (some ⟨w1.heap.size, 0, none⟩) 0 0) 0 [] rfl (World.ownsRow_made w1 #[] 0 hB1 (by simp [maxLen]) rfl) A1 k c1 (s.spend.ws.flatMap rwCells) rfl HLEN.out HCL.out (rw_one _) (by omega) (by simp only [maxLen]; omega) (by simp; omega) ?_; intro A2 c2 w2 hown2 hmod2 hat2; rw [Nat.zero_add, List.nil_append] at hown2; rw [Nat.zero_add] at hat2; have HO2 := Lib.hid hown2; have HM2 := Lib.hid (show Mod Nil w1 w2 from ((Mod.refl Nil w1).alloc _).trans' hmod2 (fun _ _ h => h) (fun j hj hjv => by (have e : w1.heap.size = j := by simpa [Value.ownBlock] using hjv); omega)); have HA2 := Lib.hid (show ∀ j, (Value.slice A2 k c2).ownBlock = some j → w1.heap.size ≤ j from fun j hj => (hat2 j hj).elim (fun h => by (have e : w1.heap.size = j := by simpa [Value.ownBlock] using h); omega) (fun h => by (have e : (w1.alloc (.cells #[] 106)).heap.size = w1.heap.size + 1 := by simp); omega)); clear hown2 hmod2 hat2)
          | (at_builtin; go_must (refine wpList_append_k _ rfl (.tmp 25) (.tmp 29) 79 rfl B 106 i0 (.agg #[.int .i64 0, .string ⟨#[]⟩]) 2 24 Try.underlying79 hi hz0 hz1 hz2 rfl (by decide) (.slice A2 k c2) k (s.spend.ws.flatMap rwCells) rfl (own_keep HO2.out ((Mod.refl Nil w2).alloc _) (fun _ _ => id)) (some ⟨w2.heap.size, 0, none⟩) 1 1 [.int .i64 m, .string (str b)] rfl rfl (fun _ => ⟨_, rfl, cells_new w2 _ #[.int .i64 m, .string (str b)]⟩) (by intro u hu; simp at hu; rcases hu with rfl | rfl <;> rfl) (by omega) (by simp only [maxLen]; omega) (by have := HM2.out.size; simp; omega) ?_; intro A3 c3 w3 hown3 hmod3 hat3; have HM3 := Lib.hid (show Mod Nil w1 w3 from (HM2.out.alloc _).trans' hmod3 (fun _ _ h => h) (fun j hj hjv => absurd hj (by have := HA2.out j hjv; omega))); have hb3 := HD.out.blk.keep HM3.out id; have hf3 := hb3.frozen 1; have hc3 := hb3.cell 1; have hgl3 := hb3.lt; have HP := Lib.hid (fun (e : Ending) => rwrite_after (e := e) HD.out HFF.out HM1.out HF1.out HM3.out HK.out hown3 (fun j hj => (hat3 j hj).elim (HA2.out j) (fun h => by have := HM2.out.size; simp at h; omega)) HB.out (by rw [HSS.out]; exact HTH.out)); clear hb3 hown3 hmod3 hat3)))
        go_ret
        rw [HE.out]
        exact HP.out _
      · have hon' : s.on = false := by simpa using hon
        have HE := Lib.hid (show s.write m b = (s, 20) by unfold DSt.write; rw [if_pos ⟨ht, hb⟩, if_neg hon])
        rw [hon', spend_off hon'] at HO
        rw [hb] at hs
        clear h ht hb hbb hn hon hon'
        go_enter Try.func28, Try.ntmps28
        go_wp2_with fail
        refine HT.out.mono ?_
        rintro r w0 ⟨rfl, rfl⟩
        go_wp2_with fail
        refine HO.out.mono ?_
        rintro r w1 ⟨rfl, hp⟩
        have HP := Lib.hid hp
        clear hp
        go_wp2_with fail
        go_ret
        rw [HE.out]
        exact ⟨rfl, HP.out⟩
    · have HE := Lib.hid (show s.write n b = (s, 2) by unfold DSt.write; rw [if_neg (fun h => hb h.2)])
      have hNb : ((b.length : Int) == 64) = false := by simp; omega
      clear h ht hbb
      go_enter Try.func28, Try.ntmps28
      go_wp2_with fail
      refine HT.out.mono ?_
      rintro r w0 ⟨rfl, rfl⟩
      go_wp2_with fail
      go_ret
      rw [HE.out]
      exact ⟨rfl, F, HH.out, Mod.refl _ _, fun _ h => .inl h⟩
  · have ht' : s.there n = false := by simpa using ht
    have HE := Lib.hid (show s.write n b = (s, 2) by unfold DSt.write; rw [if_neg (fun h => ht h.1)])
    rw [ht'] at HT
    clear h ht ht' hbb
    go_enter Try.func28, Try.ntmps28
    go_wp2_with fail
    refine HT.out.mono ?_
    rintro r w0 ⟨rfl, rfl⟩
    go_wp2_with fail
    go_ret
    rw [HE.out]
    exact ⟨rfl, F, HH.out, Mod.refl _ _, fun _ h => .inl h⟩
end Go.Proofs.Ytjmehamkpmimkaa
