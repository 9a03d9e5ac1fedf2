/- Parts of the proof of StoreKeeps, joined: StoAw RowS StoKpW. -/
import Derived.Test.YtjmehamkpmimkaaStoreKeepsj6
namespace Go.Proofs.Ytjmehamkpmimkaa
open Go.RowKit

/-- Which acts of layer 5 are small. -/
def act5Small (a : Act3) : Bool := a.b.length ≤ 600 && a.keep.length ≤ 60
def acts5Small (m : Nat) (l : List Act3) : Bool := l.length ≤ m && l.all act5Small

set_option maxHeartbeats 1600000 in
set_option maxRecDepth 100000 in
theorem small5_any (S : Nat → Prop) (A : Option Addr) (n c m : Nat) (mv : Int) (l : List Act3) (w : World) (hmv : mv = m) (hm : m ≤ 1000) (hn : l.length = n) (hr : ActsAt S w A l) :
    Calls Try.prog 34 #[.slice A n c, .int .i64 mv] w fun r w' => r = .returned (.bool (acts5Small m l)) ∧ w = w' := by
  subst hmv
  have HN := Lib.hid hn
  have HR := Lib.hid hr
  clear hn hr
  by_cases h40 : m < n
  · have hb : acts5Small m l = false := by unfold acts5Small; rw [HN.out]; simp; omega
    rw [hb]
    go_enter Try.func34, Try.ntmps34
    go_wp2_with fail
    go_ret
    exact ⟨rfl, rfl⟩
  · go_enter Try.func34, Try.ntmps34
    go_wp2_with fail
    go_loop [5] (fun i => ∃ k : Nat, k ≤ n ∧ i = .int .i64 k ∧ (l.take k).all act5Small = true) (fun i => n - (intOf i).toNat)
    case atStart => exact ⟨0, Nat.zero_le _, rfl, rfl⟩
    case round =>
      obtain ⟨k, hk, rfl, hall⟩ := hrel
      have HALL := Lib.hid hall
      clear hall
      by_cases hlt : k < n
      · obtain ⟨a, ha⟩ : ∃ a, l[k]? = some a := ⟨_, List.getElem?_eq_getElem (by rw [HN.out]; exact hlt)⟩
        obtain ⟨b, o, rfl, _, _, hat⟩ := HR.out (by rw [HN.out]; omega)
        obtain ⟨h0, h1, h2, ⟨B, cB, h3, hl3, _⟩, K, cK, h4, hl4, _⟩ := hat k a ha
        have HA := Lib.hid ha
        clear hat ha h0 h1 h2
        have hno : act5Small a = false → acts5Small m l = false := fun h => by
          unfold acts5Small
          rw [show l.all act5Small = false by rw [List.all_eq_false]; exact ⟨a, List.mem_of_getElem? HA.out, by rw [h]; simp⟩]
          simp
        have HNO := Lib.hid hno
        clear hno
        by_cases hA : 600 < a.b.length
        · have HBq := Lib.hid (HNO.out (by unfold act5Small; simp; omega))
          go_wp2_with fail
          go_ret
          exact ⟨ret_bool HBq.out.symm, rfl⟩
        by_cases hB : 60 < a.keep.length
        · have HBq := Lib.hid (HNO.out (by unfold act5Small; simp; omega))
          go_wp2_with fail
          go_ret
          exact ⟨ret_bool HBq.out.symm, rfl⟩
        have HS := Lib.hid (show act5Small a = true by unfold act5Small; simp; omega)
        go_wp2_with fail
        go_round
        case rel => exact ⟨k + 1, by omega, by go_num, by rw [List.take_add_one, HA.out]; simp [HS.out]; simpa using HALL.out⟩
        case measure => simp [intOf] <;> omega
      · have HBq := Lib.hid (show acts5Small m l = true by unfold acts5Small; have := HALL.out; rw [List.take_of_length_le (by have := HN.out; omega)] at this; rw [this, HN.out]; simp; omega)
        go_wp2_with fail
        go_ret
        exact ⟨ret_bool HBq.out.symm, rfl⟩

theorem acts5Small_len {m : Nat} {l : List Act3} (h : acts5Small m l = true) : l.length ≤ m := by
  unfold acts5Small at h
  simp at h
  exact h.1
theorem acts5Small_at {m : Nat} {l : List Act3} {k : Nat} {a : Act3} (h : acts5Small m l = true) (ha : l[k]? = some a) : a.b.length ≤ 600 ∧ a.keep.length ≤ 60 := by
  unfold acts5Small at h
  simp at h
  have := h.2 a (List.mem_of_getElem? ha)
  unfold act5Small at this
  simpa using this

/-- A store and its disk in memory; what has turned since w0 is new. -/
def StoOn (w0 : World) (g p : Nat) (d : DSt) (s : SSt) (wr : World) : Prop :=
  ∃ F G, DskAt w0.heap.size wr g F d ∧ StoAt w0.heap.size wr p g G s ∧ (∀ k, F k → ¬ G k) ∧ Mod Nil w0 wr

theorem StoOn.keep0 {w0 wr w1 : World} {g p : Nat} {d : DSt} {s : SSt} (h : StoOn w0 g p d s wr) (hm : Mod Nil wr w1) : StoOn w0 g p d s w1 := by
  obtain ⟨F, G, h1, h2, h3, h4⟩ := h
  exact ⟨F, G, h1.keep0 hm, h2.keep0 hm, h3, h4.trans hm⟩
/-- A call of the disk alone. -/
theorem StoOn.disk {w0 wr w1 : World} {g p : Nat} {F F1 G : Nat → Prop} {d d1 : DSt} {s : SSt} (h1 : DskAt w0.heap.size wr g F d) (h2 : StoAt w0.heap.size wr p g G s) (h3 : ∀ k, F k → ¬ G k) (h4 : Mod Nil w0 wr)
    (hd : DskAt w0.heap.size w1 g F1 d1) (hm : Mod F wr w1) (hF : ∀ k, F1 k → F k ∨ wr.heap.size ≤ k) : StoOn w0 g p d1 s w1 :=
  ⟨F1, G, hd, h2.keep hm (fun k hk hkF => h3 k hkF hk), fun k hk hk2 => (hF k hk).elim (fun h => h3 k h hk2) (fun h => by have := (h2.lt k hk2).2; omega), h4.trans' hm (fun _ _ h => h) (fun k hk hF => absurd hk (by have := (h1.lt k hF).1; omega))⟩
/-- A store that is made. -/
theorem StoMade.on {w0 wr w1 : World} {g : Nat} {F : Nat → Prop} {d d1 : DSt} {t : List UInt8} {r : Ending} (h1 : DskAt w0.heap.size wr g F d) (h4 : Mod Nil w0 wr) (h : StoMade w0.heap.size wr g F d1 0 t r w1) :
    ∃ p, r = .returned (.tuple #[.pointer (some ⟨p, 0, none⟩), .int .i64 0]) ∧ StoOn w0 g p d1 ⟨t, false, 0⟩ w1 := by
  obtain ⟨F', hd, hm, hF, ⟨_, p, G, rfl, hs, hG⟩ | ⟨h0, _⟩⟩ := h
  · exact ⟨p, rfl, F', G, hd, hs, fun k hk hk2 => (hG k hk2).2 hk, h4.trans' hm (fun _ _ h => h) (fun k hk hF => absurd hk (by have := (h1.lt k hF).1; omega))⟩
  · exact absurd rfl h0
theorem SavePost.on {w0 wr w1 : World} {g p : Nat} {F G : Nat → Prop} {d d1 : DSt} {s s1 : SSt} {e : Int} {r : Ending} (h1 : DskAt w0.heap.size wr g F d) (h2 : StoAt w0.heap.size wr p g G s) (h4 : Mod Nil w0 wr) (h : SavePost w0.heap.size wr p g F G s1 d1 e r w1) :
    r = .returned (.int .i64 e) ∧ StoOn w0 g p d1 s1 w1 := by
  obtain ⟨rfl, F', G', hd, hs, hFG, hm, hF, hG⟩ := h
  refine ⟨rfl, F', G', hd, hs, hFG, h4.trans' hm (fun _ _ h => h) (fun k hk hkF => absurd hk ?_)⟩
  rcases hkF with hkF | hkF
  · have := (h1.lt k hkF).1; omega
  · have := (h2.lt k hkF).1; omega

theorem Rd.cellsIn (w : World) (cs : Array Value) (t : TypeId) (fr : Nat × Nat) {g : Nat} (hg : g = w.heap.size) : Rd (fun j => j = g) (w.alloc (.cells cs t fr)) (some ⟨g, 0, none⟩) cs.toList := fun hn => by
  obtain ⟨ad, e, _, hb, hc⟩ := Rd.cells w cs t fr hg hn
  injection e with e
  subst e
  exact ⟨_, rfl, rfl, hb, hc⟩

set_option maxHeartbeats 6400000 in
set_option maxRecDepth 100000 in
theorem awake5_any (w : World) : Calls Try.prog 33 #[] w fun r w' => r = .returned (.bool true) ∧ Mod Nil w w' := by
  have hz := newS_sized (n := 10) (by omega) (by omega)
  have hA : jA 10 = 4 := by decide
  rw [hA] at hz
  obtain ⟨hf1, hf2⟩ := format_good (T := [97]) hz (by simp) rfl rfl
  have HN := Lib.hid (dskNew_ok 10 w (by omega) (by omega))
  rw [show (⟨List.replicate (64 * 10) 0, [], -1⟩ : DSt) = newS 10 from rfl] at HN
  obtain ⟨s0, hs0⟩ : ∃ s0, s0 = newS 10 := ⟨_, rfl⟩
  rw [← hs0] at hf1 hf2 HN
  have hw0 : s0.ws.length ≤ 400000 ∧ s0.left ≤ 9223372036854775807 := by rw [hs0]; simp [newS]
  obtain ⟨hf3, hf4⟩ := format_stood (t := sealed [97]) hz (by rw [sealed_len]; simp) rfl rfl
  rw [← hs0] at hf3 hf4
  have hp := hf3.to_put (t := sealed [98]) (hs0 ▸ hz) hf4 (by rw [sealed_len]; simp)
  obtain ⟨s1, hs1⟩ : ∃ s1, s1 = (jFormat (sealed [97]) s0).1 := ⟨_, rfl⟩
  rw [← hs1] at hf2 hf4 hp
  have hsv : sSave [98] ⟨[97], false, 0⟩ s1 = (⟨[98], false, 1⟩, (jPut (sealed [98]) s1).1, 0) := by
    unfold sSave
    rw [if_neg (by simp), if_pos hp.1]
    rfl
  obtain ⟨X, hX, hX0, hbd, hcr⟩ := save_crash (t := [98]) (s := ⟨[97], false, 0⟩) hf2 (by simp) rfl
  rw [hsv] at hX0 hbd hcr
  obtain rfl := hX0 rfl
  obtain ⟨s2, hs2⟩ : ∃ s2, s2 = (jPut (sealed [98]) s1).1 := ⟨_, rfl⟩
  rw [← hs2] at hsv hbd hcr
  have hcr := hcr [] (-1) 0
  obtain ⟨s3, hs3⟩ : ∃ s3, s3 = s2.crash [] (-1) 0 := ⟨_, rfl⟩
  rw [← hs3] at hcr
  obtain ⟨Y, hY, ho, hgd, hgl⟩ := open_left hcr (by simp) (by simp)
  obtain rfl : Y = [98] := by rcases hY with h | h <;> exact h
  have HF1 := Lib.hid hf1
  have HS1 := Lib.hid hs1
  have HG1 := Lib.hid hf2
  have HW0 := Lib.hid hw0
  have HSV := Lib.hid hsv
  have HBD := Lib.hid hbd
  have HS3 := Lib.hid hs3
  have HLE := Lib.hid hcr
  have HO := Lib.hid ho
  have HGL := Lib.hid hgl
  clear hz hA hf1 hf2 hf3 hf4 hp hs0 hw0 hsv hX hX0 hbd hcr hs1 hs2 hs3 hY ho hgd hgl
  have kc := fun (w : World) (C : Array Value) (n c : Nat) => Lib.run_convert_bytes_const (P := Try.prog) w 36 5 C n c Try.underlying36 Try.underlying5
  go_enter Try.func33, Try.ntmps33
  go_wp2_with fail
  refine HN.out.mono ?_
  rintro r w1 ⟨g, F, rfl, hd1, hm1⟩
  have HD1 := Lib.hid hd1
  have HM1 := Lib.hid hm1
  clear hd1 hm1
  go_wp2_with fail
  have hM2 : Mod Nil w1 (w1.alloc (.cells #[.int .u8 97] 5 (1, 2))) := (Mod.refl Nil w1).alloc _
  have hlt1 : ∀ k, F k → k < w1.heap.size := fun k hk => (HD1.out.lt k hk).2
  refine (stoFormat_any w.heap.size g F (fun k => k = w1.heap.size) s0 (some ⟨w1.heap.size, 0, none⟩) 1 1 [97] _ (HD1.out.keep0 hM2) (by have := HM1.out.size; simp; omega) rfl (by omega) (Rd.cellsIn w1 #[.int .u8 97] 5 (1, 2) rfl) (fun k hk hF => by have := hlt1 k hF; omega) HW0.out.1 HW0.out.2).mono ?_
  intro r w2 hmd
  rw [HF1.out, ← HS1.out] at hmd
  obtain ⟨p, rfl, hon⟩ := StoMade.on (w0 := w) (HD1.out.keep0 hM2) (HM1.out.trans hM2) hmd
  have HON := Lib.hid hon
  clear hmd hon hM2
  go_wp2_with fail
  obtain ⟨F2, G2, hd2, hs2, hFG2, hm2⟩ := HON.out
  have HFL := Lib.hid (show ∀ k, (F2 k ∨ G2 k) → k < w2.heap.size from fun k hk => hk.elim (fun h => (hd2.lt k h).2) (fun h => (hs2.lt k h).2))
  have HD2 := Lib.hid hd2
  have HS2 := Lib.hid hs2
  have HFG2 := Lib.hid hFG2
  have HM2 := Lib.hid hm2
  clear hd2 hs2 hFG2 hm2
  have hM3 : Mod Nil w2 (w2.alloc (.cells #[.int .u8 98] 5 (1, 2))) := (Mod.refl Nil w2).alloc _
  have hbg := HG1.out.left
  have hws := HG1.out.ws
  refine (stoSave_any w.heap.size p g F2 G2 (fun k => k = w2.heap.size) ⟨[97], false, 0⟩ s1 (some ⟨w2.heap.size, 0, none⟩) 1 1 [98] _ (HD2.out.keep0 hM3) (HS2.out.keep0 hM3) HFG2.out (by have := HM2.out.size; simp; omega) rfl (by omega) (Rd.cellsIn w2 #[.int .u8 98] 5 (1, 2) rfl) (fun k hk hF => by have := HFL.out k (.inl hF); omega) (by rw [hws]; simp) hbg (by simp)).mono ?_
  intro r w3 hsv
  obtain ⟨rfl, hon⟩ := SavePost.on (w0 := w) (HD2.out.keep0 hM3) (HS2.out.keep0 hM3) (HM2.out.trans hM3) hsv
  rw [HSV.out] at hon ⊢
  have HON3 := Lib.hid hon
  clear hsv hon hM3 hbg hws
  go_wp2_with fail
  obtain ⟨F3, G3, hd3, hs3, hFG3, hm3⟩ := HON3.out
  have HD3 := Lib.hid hd3
  have HS3w := Lib.hid hs3
  have HFG3 := Lib.hid hFG3
  have HM3 := Lib.hid hm3
  clear hd3 hs3 hFG3 hm3
  refine (dskCrash_any w.heap.size g F3 s2 none 0 0 [] (-1) 0 (fun k => False) _ HD3.out (by have := HBD.out.1; omega) rfl (by simp [maxLen]) (Rd.nil _ _ _) (fun k hk => hk.elim)).mono ?_
  rintro r w4 ⟨rfl, F4, hd4, hm4, hF4⟩
  rw [← HS3.out] at hd4
  have HON4 := Lib.hid (StoOn.disk HD3.out HS3w.out HFG3.out HM3.out hd4 hm4 hF4)
  clear hd4 hm4 hF4
  go_wp2_with fail
  obtain ⟨F5, G5, hd5, hs5, hFG5, hm5⟩ := HON4.out
  have HD5 := Lib.hid hd5
  have HM5 := Lib.hid hm5
  clear hd5 hs5 hFG5 hm5
  refine (stoOpen_any w.heap.size g F5 s3 _ HD5.out HM5.out.size (by rw [HLE.out.sound.ws]; simp) (by rw [HLE.out.sound.left]; omega) (by rw [HGL.out, sealed_len]; simp)).mono ?_
  intro r w6 hmd
  rw [HO.out] at hmd
  obtain ⟨q, rfl, hon⟩ := StoMade.on (w0 := w) HD5.out HM5.out hmd
  have HON6 := Lib.hid hon
  clear hmd hon
  go_wp2_with fail
  obtain ⟨F6, G6, hd6, hs6, hFG6, hm6⟩ := HON6.out
  have HS6 := Lib.hid hs6
  have HM6 := Lib.hid hm6
  clear hd6 hs6 hFG6 hm6
  refine (text_any w.heap.size q g G6 _ _ HS6.out).mono ?_
  rintro r w7 ⟨A7, c7, rfl, ho7, hm7⟩
  have kb := conv_bytes (l := [98]) (n := 1) (Rd.of_own ho7) rfl c7
  have hb : ((str [98]).toList == [98]) = true := by rw [ByteArray.toList_eq, str_list]; rfl
  have HM7 := Lib.hid (HM6.out.trans hm7)
  clear ho7 hm7
  go_wp2_with fail
  go_ret
  exact ⟨rfl, HM7.out⟩
end Go.Proofs.Ytjmehamkpmimkaa

namespace Go.Proofs.Ytjmehamkpmimkaa
open Go.RowKit Go.ChangeShapes Go.WideShapes Go.Deep

section
variable {H : Type} {enc : TypeId × Value → H} {w : World}

/-- The argument of the laws of layer 5; its numbers are ints. -/
theorem open_acts5 {a : Option Addr} {len cap : Nat} {d : DataW H} {p : List MemPlace}
    (h : DataW.Trod enc Try.prog w 0 (fun _ => true) true 61 (.slice a len cap) d p) :
    ∃ l : List Act3, (l.length = len ∧ ActsAt All w a l) ∧ ∀ f ∈ l, f.n ≤ 9223372036854775807 := by
  obtain ⟨fuel, hf⟩ := h
  rcases open_slice_fields Try.underlying61 Try.underlying66 (by kernel_rfl) (by kernel_rfl) hf with ⟨hcs, _⟩ | ⟨x, l, c, m, D, Pl, hcs, _, hl, hm, hmm, _, hat⟩
  · simp [Value.cells] at hcs
    obtain ⟨rfl, rfl, rfl⟩ := hcs
    exact ⟨[], ⟨rfl, fun h => by simp at h⟩, fun f hf => by simp at hf⟩
  · simp [Value.cells] at hcs
    obtain ⟨rfl, rfl, rfl⟩ := hcs
    have hm2 : m = cap := by simpa using hmm
    subst hm2
    have each : ∀ i, i < len → ∃ f : Act3, f.n ≤ 9223372036854775807 ∧ w.cell? (x.add (i * 5)) = some (.int .i64 f.kind) ∧ w.cell? (x.add (i * 5 + 1)) = some (.int .i64 f.n) ∧ w.cell? (x.add (i * 5 + 2)) = some (.int .i64 f.m) ∧
        (∃ B c, w.cell? (x.add (i * 5 + 3)) = some (.slice B f.b.length c) ∧ f.b.length ≤ maxLen ∧ Rd All w B (f.b.map bv)) ∧
        ∃ K c, w.cell? (x.add (i * 5 + 4)) = some (.slice K f.keep.length c) ∧ f.keep.length ≤ maxLen ∧ Rd All w K (f.keep.map Value.bool) := by
      intro i hi
      obtain ⟨ys, n, _, _, _, hfld⟩ := hat i (by omega)
      obtain ⟨v0, y0, c0, _, t0⟩ := hfld 0 _ rfl
      obtain ⟨v1, y1, c1, _, t1⟩ := hfld 1 _ rfl
      obtain ⟨v2, y2, c2, _, t2⟩ := hfld 2 _ rfl
      obtain ⟨v3, y3, c3, _, t3⟩ := hfld 3 _ rfl
      obtain ⟨v4, y4, c4, _, t4⟩ := hfld 4 _ rfl
      obtain ⟨kind, e0, _, _⟩ := DataW.trod_int Try.underlying3 t0
      obtain ⟨num, e1, _, wnum⟩ := DataW.trod_int Try.underlying3 t1
      obtain ⟨num2, e2, _, _⟩ := DataW.trod_int Try.underlying3 t2
      obtain ⟨B, ls, c, e3, h1, h2⟩ := open_oct t3
      obtain ⟨K, bs, d, e4, h3, h4⟩ := open_boolsl t4
      injection e0 with e0
      injection e1 with e1
      injection e2 with e2
      subst e0 e1 e2 e3 e4
      exact ⟨⟨kind, num, num2, ls, bs⟩, (by have := bounds_i64 wnum; show num ≤ _; omega), c0, c1, c2, ⟨B, c, c3, h1, h2⟩, K, d, c4, h3, h4⟩
    obtain ⟨F, hF⟩ : ∃ F : Nat → Act3, ∀ i, i < len → (F i).n ≤ 9223372036854775807 ∧ w.cell? (x.add (i * 5)) = some (.int .i64 (F i).kind) ∧ w.cell? (x.add (i * 5 + 1)) = some (.int .i64 (F i).n) ∧ w.cell? (x.add (i * 5 + 2)) = some (.int .i64 (F i).m) ∧
        (∃ B c, w.cell? (x.add (i * 5 + 3)) = some (.slice B (F i).b.length c) ∧ (F i).b.length ≤ maxLen ∧ Rd All w B ((F i).b.map bv)) ∧
        ∃ K c, w.cell? (x.add (i * 5 + 4)) = some (.slice K (F i).keep.length c) ∧ (F i).keep.length ≤ maxLen ∧ Rd All w K ((F i).keep.map Value.bool) :=
      ⟨fun i => if h : i < len then (each i h).choose else ⟨0, 0, 0, [], []⟩, fun i hi => by simp only [hi, dif_pos]; exact (each i hi).choose_spec⟩
    refine ⟨(List.range len).map F, ⟨by simp, fun hn => ?_⟩, fun f hf => by obtain ⟨i, hi, rfl⟩ := List.mem_map.1 hf; exact (hF i (List.mem_range.1 hi)).1⟩
    have hn' : 0 < len := by simpa using hn
    have hspot : x.spot = none := by
      have h0 := (hF 0 hn').2.1
      have := cell_spot h0
      rwa [Nat.zero_mul, add_zero] at this
    have hb : x.block < w.heap.size := by
      have h0 := (hF 0 hn').2.1
      rw [Nat.zero_mul, add_zero] at h0
      exact World.block_lt_of_cell? w x h0
    refine ⟨x.block, x.off, by obtain ⟨b, o, s⟩ := x; simp only at hspot; rw [hspot], trivial, hb, fun i f hi => ?_⟩
    have hil : i < len := by
      have := (List.getElem?_eq_some_iff.1 hi).1
      simpa using this
    have hfi : F i = f := by simpa [hil] using hi
    subst hfi
    obtain ⟨_, h0, h1, h2, ⟨B, c, h3, hr3⟩, K, d, h4, hr4⟩ := hF i hil
    rw [add_lit' hspot] at h0 h1 h2 h3 h4
    exact ⟨h0, by rw [Nat.add_assoc]; exact h1, by rw [Nat.add_assoc]; exact h2, ⟨B, c, by rw [Nat.add_assoc]; exact h3, hr3⟩, K, d, by rw [Nat.add_assoc]; exact h4, hr4⟩

theorem open_texts {a : Option Addr} {len cap : Nat} {d : DataW H} {p : List MemPlace}
    (h : DataW.Trod enc Try.prog w 0 (fun _ => true) true 59 (.slice a len cap) d p) :
    ∃ ps : List (List UInt8), ps.length = len ∧ Parts All w a ps := by
  obtain ⟨fuel, hf⟩ := h
  rcases open_slice Try.underlying59 hf with ⟨hcs, _⟩ | ⟨x, l, c, m, n, D, Pl, hcs, _, hl, hm, hmm, _, hat⟩
  · simp [Value.cells] at hcs
    obtain ⟨rfl, rfl, rfl⟩ := hcs
    exact ⟨[], rfl, parts_nil _ _ _⟩
  · simp [Value.cells] at hcs
    obtain ⟨rfl, rfl, rfl⟩ := hcs
    have hm2 : m = cap := by simpa using hmm
    subst hm2
    have hC : Try.prog.cellsOf 36 = 1 := by kernel_rfl
    have each : ∀ i, i < len → ∃ (q : List UInt8) (B : Option Addr) (c : Nat), w.cell? (x.add i) = some (.slice B q.length c) ∧ q.length ≤ maxLen ∧ Rd All w B (q.map bv) := by
      intro i hi
      obtain ⟨cs', hc, ht'⟩ := hat i (by omega)
      rw [hC, Nat.mul_one] at hc
      obtain ⟨_, hcl, hcell⟩ := World.cells?_some hc
      obtain ⟨v, rfl⟩ : ∃ v, cs' = [v] := List.length_eq_one_iff.1 hcl
      obtain ⟨B, q, cc, rfl, h1, h2⟩ := open_oct ht'
      have h0 := hcell 0 (by omega)
      rw [add_zero] at h0
      exact ⟨q, B, cc, h0, h1, h2⟩
    obtain ⟨Q, hQ⟩ : ∃ Q : Nat → List UInt8, ∀ i, i < len → ∃ (B : Option Addr) (c : Nat), w.cell? (x.add i) = some (.slice B (Q i).length c) ∧ (Q i).length ≤ maxLen ∧ Rd All w B ((Q i).map bv) :=
      ⟨fun i => if h : i < len then (each i h).choose else [], fun i hi => by simp only [hi, dif_pos]; exact (each i hi).choose_spec⟩
    obtain ⟨V, hV⟩ : ∃ V : Nat → Value, ∀ i, i < len → w.cell? (x.add i) = some (V i) ∧ ∃ (B : Option Addr) (c : Nat), V i = .slice B (Q i).length c ∧ (Q i).length ≤ maxLen ∧ Rd All w B ((Q i).map bv) :=
      ⟨fun i => if h : i < len then .slice (hQ i h).choose (Q i).length (hQ i h).choose_spec.choose else undef, fun i hi => by
        simp only [hi, dif_pos]
        obtain ⟨h1, h2, h3⟩ := (hQ i hi).choose_spec.choose_spec
        exact ⟨h1, _, _, rfl, h2, h3⟩⟩
    refine ⟨(List.range len).map Q, by simp, (List.range len).map V, fun hn => ?_, by simp, fun i q hq => ?_⟩
    · have hn' : 0 < len := by simpa using hn
      have hb : x.block < w.heap.size := by
        have h0 := (hV 0 hn').1
        rw [add_zero] at h0
        exact World.block_lt_of_cell? w x h0
      refine ⟨x, rfl, trivial, hb, fun j u hu => ?_⟩
      have hj : j < len := by
        have := (List.getElem?_eq_some_iff.1 hu).1
        simpa using this
      rw [(hV j hj).1, ← hu]
      simp [hj]
    · have hil : i < len := by
        have := (List.getElem?_eq_some_iff.1 hq).1
        simpa using this
      have hqi : Q i = q := by simpa [hil] using hq
      subst hqi
      obtain ⟨_, B, cc, hv, h2, h3⟩ := hV i hil
      exact ⟨B, cc, by simp [hil, hv], h2, h3⟩
end
end Go.Proofs.Ytjmehamkpmimkaa

namespace Go.Proofs.Ytjmehamkpmimkaa
open Go.RowKit

set_option maxHeartbeats 12800000 in
set_option maxRecDepth 100000 in
theorem storeKeeps_walk (A0 : Option Addr) (n0 c0 : Nat) (ps : List (List UInt8)) (A1 : Option Addr) (n1 c1 : Nat) (l : List Act3) (w : World) (hn : ps.length = n0) (hr0 : Parts All w A0 ps) (hl : l.length = n1) (hr : ActsAt All w A1 l) (hrg : ∀ a ∈ l, a.n ≤ 9223372036854775807) :
    Calls Try.prog 7 #[.slice A0 n0 c0, .slice A1 n1 c1] w fun r w' => r = .returned (.bool true) ∧ Mod Nil w w' := by
  have HPT := Lib.hid hr0
  have HN := Lib.hid hn
  have HR := Lib.hid (show ActsAt (fun b => b < w.heap.size) w A1 l by
    intro hn
    obtain ⟨b, o, e, _, hb, hf⟩ := hr hn
    refine ⟨b, o, e, hb, hb, fun i a ha => ?_⟩
    obtain ⟨h0, h1, h2, ⟨B, c, h3, h4, h5⟩, K, d, h6, h7, h8⟩ := hf i a ha
    exact ⟨h0, h1, h2, ⟨B, c, h3, h4, h5.mono fun _ h _ => h⟩, K, d, h6, h7, h8.mono fun _ h _ => h⟩)
  have HL := Lib.hid hl
  have HRG := Lib.hid hrg
  clear hr0 hn hr hl hrg
  by_cases hsm : acts5Small 8 l = true ∧ n0 ≤ 8
  · obtain ⟨hsm, hn8⟩ := hsm
    have hn18 : n1 ≤ 8 := by have := acts5Small_len hsm; have := HL.out; omega
    have HSML := Lib.hid (fun k a (ha : l[k]? = some a) => acts5Small_at hsm ha)
    have hz := newS_sized (n := 14) (by omega) (by omega)
    have hA : jA 14 = 6 := by decide
    rw [hA] at hz
    obtain ⟨hf1, hf2⟩ := format_good (T := []) hz (by simp) rfl rfl
    have HNW := Lib.hid (fun w' => dskNew_ok 14 w' (by omega) (by omega))
    rw [show (⟨List.replicate (64 * 14) 0, [], -1⟩ : DSt) = newS 14 from rfl] at HNW
    obtain ⟨s0, hs0⟩ : ∃ s0, s0 = newS 14 := ⟨_, rfl⟩
    rw [← hs0] at hf1 hf2 HNW
    have HW0 := Lib.hid (show s0.ws.length ≤ 400000 ∧ s0.left ≤ 9223372036854775807 by rw [hs0]; simp [newS])
    have HF1 := Lib.hid hf1
    have HF2 := Lib.hid hf2
    clear hz hA hf1 hf2 hs0
    go_enter Try.func7, Try.ntmps7
    go_wp2_with fail
    refine (awake5_any _).mono ?_
    rintro r w0 ⟨rfl, hm0⟩
    have HM0 := Lib.hid hm0
    clear hm0
    go_wp2_with fail
    refine (small5_any (fun b => b < w.heap.size) A1 n1 c1 8 8 l _ rfl (by omega) HL.out (HR.out.keep HM0.out (fun _ _ => id))).mono ?_
    rintro r w1 ⟨rfl, rfl⟩
    rw [hsm]
    clear hsm
    go_wp2_with fail
    refine (HNW.out _).mono ?_
    rintro r w1 ⟨g, F, rfl, hd1, hm1⟩
    have HD1 := Lib.hid hd1
    have HM1 := Lib.hid hm1
    clear hd1 hm1
    go_wp2_with fail
    refine (stoFormat_any w0.heap.size g F (fun _ => False) s0 none 0 0 [] _ HD1.out HM1.out.size rfl (by omega) (Rd.nil _ _ _) (fun _ h => h.elim) HW0.out.1 HW0.out.2).mono ?_
    intro r w2 hmd
    rw [HF1.out] at hmd
    obtain ⟨p, rfl, hon⟩ := StoMade.on (w0 := w0) HD1.out HM1.out hmd
    have HON := Lib.hid hon
    clear hmd hon
    go_wp2_with fail
    go_loopw [7, 9, 11] (fun sv uv iv wr => ∃ (i p : Nat) (su : List UInt8) (d : DSt) (s : SSt), i ≤ n0 ∧ sv = .pointer (some ⟨p, 0, none⟩) ∧ uv = .string (str su) ∧ iv = .int .i64 i ∧ StoOn w0 g p d s wr ∧ Good 6 896 su d ∧ su.length ≤ 300 ∧ s.br = false ∧ s.n = 0) (fun _ _ v _ => n0 - (intOf v).toNat)
    case atStart => exact ⟨0, p, [], _, _, Nat.zero_le _, rfl, rfl, rfl, HON.out, HF2.out, by simp, rfl, rfl⟩
    case round =>
      obtain ⟨i, p, su, d, s, hi, rfl, rfl, rfl, hon, hgd, hsu, hbr, hsn⟩ := hrel
      obtain ⟨F, G, hd, hs, hFG, hm⟩ := hon
      have HD := Lib.hid hd
      have HS := Lib.hid hs
      have HFG := Lib.hid hFG
      have HM := Lib.hid hm
      have HGD := Lib.hid hgd
      have HBR := Lib.hid hbr
      have HSN := Lib.hid hsn
      have HMW := Lib.hid (HM0.out.trans hm)
      clear hd hs hFG hm hgd hbr hsn
      by_cases hlt : i < n0
      · by_cases hlt1 : i < n1
        · obtain ⟨t, hti⟩ : ∃ t, ps[i]? = some t := ⟨_, List.getElem?_eq_getElem (by rw [HN.out]; exact hlt)⟩
          obtain ⟨vs, hvr, _, hvs⟩ := HPT.out
          obtain ⟨Bt, ct, hv, htm, htr⟩ := hvs i t hti
          obtain ⟨ad, rfl, _, hadl, hc⟩ := hvr.at_ hv
          have HTR := Lib.hid (show Rd (fun b => b < w.heap.size) w Bt (t.map bv) from htr.mono (fun _ h _ => h))
          have HCA := Lib.hid (show ∀ wx, Mod Nil w wx → wx.cell? (ad.add i) = some (.slice Bt t.length ct) from fun wx hm => (hm.cell (by rw [block_of_add]; exact hadl) id).trans hc)
          have hc := HCA.out _ HMW.out
          unfold maxLen at htm
          clear hvr hvs hv hti htr
          by_cases h300 : 300 < t.length
          · go_wp2_with fail
            go_ret
            exact ⟨rfl, HMW.out⟩
          · obtain ⟨a, ha⟩ : ∃ a, l[i]? = some a := ⟨_, List.getElem?_eq_getElem (by rw [HL.out]; exact hlt1)⟩
            obtain ⟨b, o, rfl, _, hbl, hat⟩ := HR.out (by rw [HL.out]; omega)
            obtain ⟨_, h1, h2, _, K, cK, h4, hl4, hr4⟩ := hat i a ha
            have HC1 := Lib.hid (show ∀ wx, Mod Nil w wx → wx.cell? ⟨b, o + i * 5 + 1, none⟩ = some (.int .i64 a.n) from fun wx hm => (hm.cell hbl id).trans h1)
            have HC2 := Lib.hid (show ∀ wx, Mod Nil w wx → wx.cell? ⟨b, o + i * 5 + 2, none⟩ = some (.int .i64 a.m) from fun wx hm => (hm.cell hbl id).trans h2)
            have HC4 := Lib.hid (show ∀ wx, Mod Nil w wx → wx.cell? ⟨b, o + i * 5 + 4, none⟩ = some (.slice K a.keep.length cK) from fun wx hm => (hm.cell hbl id).trans h4)
            have HRK := Lib.hid hr4
            have HLK := Lib.hid hl4
            have HPW := Lib.hid (HRG.out a (List.mem_of_getElem? ha))
            have hkl := (HSML.out i a ha).2
            have h1 := HC1.out _ HMW.out
            obtain ⟨X, hX, hX0, hbd, hcr⟩ := save_crash (t := t) (s := s) (d := d.power a.n) (T := su) (a := 6) (N := 896) ⟨HGD.out.sized.to HGD.out.sized.len, HGD.out.ws, HGD.out.home, HGD.out.mark, by show max a.n (-1) ≤ _; have := HPW.out; omega⟩ (by omega) HBR.out
            have HX := Lib.hid hX
            have HX0 := Lib.hid hX0
            have HBD := Lib.hid hbd
            have HCR := Lib.hid (hcr a.keep a.m 9)
            clear hat ha h2 h4 hr4 hl4 hX hX0 hbd hcr
            go_wp2_with fail
            refine (dskPower_any w0.heap.size g F d a.n _ HD.out).mono ?_
            rintro r w3 ⟨rfl, F3, hd3, hm3, hF3⟩
            obtain ⟨F3', G3, hd3', hs3, hFG3, hm03⟩ := StoOn.disk HD.out HS.out HFG.out HM.out (show DskAt w0.heap.size w3 g F3 (d.power a.n) from hd3) hm3 hF3
            have HD3 := Lib.hid hd3'
            have HS3 := Lib.hid hs3
            have HFG3 := Lib.hid hFG3
            have HM3 := Lib.hid hm03
            have hmw3 := HM0.out.trans hm03
            have HMW3 := Lib.hid hmw3
            have hc := HCA.out _ hmw3
            have kc3 := conv_bytes (l := t) (n := t.length) (HTR.out.keep0 hmw3) rfl ct
            clear hd3 hm3 hF3 hd3' hs3 hFG3 hm03 hmw3 h1
            go_wp2_with fail
            refine (stoSave_any w0.heap.size p g F3' G3 (fun b => b < w.heap.size) s (d.power a.n) Bt t.length ct t _ HD3.out HS3.out HFG3.out HM3.out.size rfl (by omega) (HTR.out.keep0 HMW3.out) (fun k hk hF => by have := (HD3.out.lt k hF).1; have := HM0.out.size; omega) (by show d.ws.length ≤ _; rw [HGD.out.ws]; simp) (by show max a.n (-1) ≤ _; have := HPW.out; omega) (by rw [HSN.out]; omega)).mono ?_
            intro r w4 hsv
            obtain ⟨rfl, hon⟩ := SavePost.on (w0 := w0) HD3.out HS3.out HM3.out hsv
            obtain ⟨e4, he4⟩ : ∃ e4, e4 = (sSave t s (d.power a.n)).2.2 := ⟨_, rfl⟩
            obtain ⟨d4, hd4⟩ : ∃ d4, d4 = (sSave t s (d.power a.n)).2.1 := ⟨_, rfl⟩
            obtain ⟨s4, hs4⟩ : ∃ s4, s4 = (sSave t s (d.power a.n)).1 := ⟨_, rfl⟩
            rw [← hd4, ← hs4] at hon
            rw [← he4] at HX0 ⊢
            rw [← hd4] at HBD HCR
            obtain ⟨F4, G4, hd4', hs4', hFG4, hm4⟩ := hon
            have HD4 := Lib.hid hd4'
            have HS4 := Lib.hid hs4'
            have HFG4 := Lib.hid hFG4
            have HM4 := Lib.hid hm4
            have HMW4 := Lib.hid (HM0.out.trans hm4)
            have HE4 := Lib.hid (show (if e4 = 0 then t else su) = X ∨ (e4 ≠ 0 ∧ X = t) by
              by_cases h : e4 = 0
              · rw [if_pos h]; exact .inl (HX0.out h).symm
              · rw [if_neg h]
                rcases HX.out with h' | h'
                · exact .inl h'.symm
                · exact .inr ⟨h, h'⟩)
            obtain ⟨u, hu⟩ : ∃ u, u = (if e4 = 0 then t else su) := ⟨_, rfl⟩
            rw [← hu] at HE4
            have HU := Lib.hid hu
            clear hsv he4 hd4 hs4 hd4' hs4' hFG4 hm4 hc kc3 hu
            go_upto_if 78 with (fail)
            go_cut [9] (fun v9 wx => v9 = .string (str u) ∧ w4 = wx)
            case first =>
              by_cases h0 : e4 = 0
              · have HQ := Lib.hid (show u = t by rw [HU.out, if_pos h0])
                subst h0
                go_wp2_with fail
                go_meet
                case rel => exact ⟨by rw [HQ.out], rfl⟩
              · have HQ := Lib.hid (show u = su by rw [HU.out, if_neg h0])
                go_wp2_with fail
                go_meet
                case rel => exact ⟨by rw [HQ.out], rfl⟩
            case rest =>
              obtain ⟨rfl, rfl⟩ := hcut
              have h2 := HC2.out _ HMW4.out
              have h4 := HC4.out _ HMW4.out
              go_wp2_with fail
              go_region_law (go_simp
                             go_at_call 22
                             refine (dskCrash_any w0.heap.size g F4 d4 K a.keep.length cK a.keep a.m 9 (fun b => b < w.heap.size) _ (HD4.out.keep0 (Mod.refl Nil w4).drew) (by have := HBD.out.1; omega) rfl HLK.out (HRK.out.keep0 (HMW4.out.drew)) (fun k hk hF => by have := (HD4.out.lt k hF).1; have := HM0.out.size; omega)).mono ?_
                             rintro r w5 ⟨rfl, F5, hd5, hm5, hF5⟩
                             have HON5 := Lib.hid (StoOn.disk (HD4.out.keep0 (Mod.refl Nil w4).drew) (HS4.out.keep0 (Mod.refl Nil w4).drew) HFG4.out HM4.out.drew hd5 hm5 hF5)
                             clear hd5 hm5 hF5)
              all_goals
                go_simp
                clear h2 h4
                go_wp2_with fail
              all_goals
                have hle := HCR.out
                obtain ⟨d5, hd5⟩ : ∃ d5, d5 = d4.crash a.keep a.m 9 := ⟨_, rfl⟩
                rw [← hd5] at HON5 hle
                obtain ⟨F5, G5, hdd5, hs5, hFG5, hm5⟩ := HON5.out
                have HD5 := Lib.hid hdd5
                have HM5 := Lib.hid hm5
                have hXl : X.length + 16 ≤ 64 * 6 := by rcases HX.out with h | h <;> rw [h] <;> omega
                obtain ⟨Y, hY, ho, hg5, hgl⟩ := open_left hle hXl (by omega)
                have HLE := Lib.hid hle
                have HO := Lib.hid ho
                have HG5 := Lib.hid hg5
                have HGL := Lib.hid hgl
                have HY := Lib.hid (show Y = u ∨ (Y ≠ u ∧ Y = t) by
                  by_cases h : Y = u
                  · exact .inl h
                  · refine .inr ⟨h, ?_⟩
                    rcases hY with hY | hY
                    · rcases HE4.out with h4 | ⟨_, h4⟩
                      · exact absurd (hY.trans h4.symm) h
                      · exact hY.trans h4
                    · exact hY)
                have hYl : Y.length ≤ 300 := by
                  rcases hY with h | h
                  · rw [h]; rcases HX.out with h | h <;> rw [h] <;> omega
                  · rw [h]; omega
                clear hd5 hdd5 hs5 hFG5 hm5 hXl hY ho hg5 hgl hle
                refine (stoOpen_any w0.heap.size g F5 d5 _ HD5.out HM5.out.size (by rw [HLE.out.sound.ws]; simp) (by rw [HLE.out.sound.left]; omega) (by rw [HGL.out, sealed_len]; omega)).mono ?_
                intro r w6 hmd
                rw [HO.out] at hmd
                obtain ⟨q, rfl, hon⟩ := StoMade.on (w0 := w0) HD5.out HM5.out hmd
                obtain ⟨d6, hd6⟩ : ∃ d6, d6 = (sOpen d5).1 := ⟨_, rfl⟩
                have hon := (show StoOn w0 g q (sOpen d5).1 ⟨Y, false, 0⟩ w6 from hon)
                rw [← hd6] at hon HG5
                obtain ⟨F6, G6, hdd6, hs6, hFG6, hm6⟩ := hon
                have HD6 := Lib.hid hdd6
                have HS6 := Lib.hid hs6
                have HFG6 := Lib.hid hFG6
                have HM6 := Lib.hid hm6
                clear hmd hd6 hdd6 hs6 hFG6 hm6
                go_wp2_with fail
                refine (text_any w0.heap.size q g G6 _ _ HS6.out).mono ?_
                rintro r w7 ⟨A7, c7, rfl, ho7, hm7⟩
                have k7 := conv_bytes (l := Y) (n := Y.length) (Rd.of_own ho7) rfl c7
                have HM7 := Lib.hid hm7
                clear ho7 hm7
                rcases HY.out with hyu | ⟨hne, hyt⟩
                · subst hyu
                  have HOI := Lib.hid (show StoOn w0 g q d6 ⟨Y, false, 0⟩ w7 from ⟨F6, G6, HD6.out.keep0 HM7.out, HS6.out.keep0 HM7.out, HFG6.out, HM6.out.trans HM7.out⟩)
                  go_wp2_with fail
                  refine (text_any w0.heap.size q g G6 _ _ (HS6.out.keep0 HM7.out)).mono ?_
                  rintro r w8 ⟨A8, c8, rfl, ho8, hm8⟩
                  have k8 := conv_bytes (l := Y) (n := Y.length) (Rd.of_own ho8) rfl c8
                  have HM8 := Lib.hid hm8
                  clear ho8 hm8
                  go_wp2_with fail
                  go_roundw
                  case rel => exact ⟨i + 1, q, Y, d6, _, by omega, rfl, rfl, by go_num, HOI.out.keep0 HM8.out, HG5.out, hYl, rfl, rfl⟩
                  case measure => simp [intOf] <;> omega
                · subst hyt
                  have hbs : ((str Y).toList == (str u).toList) = false := by
                    rw [ByteArray.toList_eq, ByteArray.toList_eq, str_list, str_list]
                    simp [hne]
                  have HNE := Lib.hid hne
                  have HOI := Lib.hid (show StoOn w0 g q d6 ⟨Y, false, 0⟩ w7 from ⟨F6, G6, HD6.out.keep0 HM7.out, HS6.out.keep0 HM7.out, HFG6.out, HM6.out.trans HM7.out⟩)
                  clear hne
                  go_wp2_with fail
                  refine (text_any w0.heap.size q g G6 _ _ (HS6.out.keep0 HM7.out)).mono ?_
                  rintro r w8 ⟨A8, c8, rfl, ho8, hm8⟩
                  have k8 := conv_bytes (l := Y) (n := Y.length) (Rd.of_own ho8) rfl c8
                  have HOI8 := Lib.hid (HOI.out.keep0 hm8)
                  have HS8 := Lib.hid ((HS6.out.keep0 HM7.out).keep0 hm8)
                  clear ho8 hm8
                  go_wp2_with fail
                  refine (text_any w0.heap.size q g G6 _ _ HS8.out).mono ?_
                  rintro r w9 ⟨A9, c9, rfl, ho9, hm9⟩
                  have k9 := conv_bytes (l := Y) (n := Y.length) (Rd.of_own ho9) rfl c9
                  have HM9 := Lib.hid hm9
                  clear ho9 hm9
                  go_wp2_with fail
                  go_roundw
                  case rel => exact ⟨i + 1, q, Y, d6, _, by omega, rfl, rfl, by go_num, HOI8.out.keep0 HM9.out, HG5.out, hYl, rfl, rfl⟩
                  case measure => simp [intOf] <;> omega
        · go_wp2_with fail
          go_ret
          exact ⟨rfl, HMW.out⟩
      · go_wp2_with fail
        go_ret
        exact ⟨rfl, HMW.out⟩
  · have hsm2 : acts5Small 8 l = false ∨ (acts5Small 8 l = true ∧ 8 < n0) := by
      cases h : acts5Small 8 l
      · exact .inl rfl
      · exact .inr ⟨rfl, by simp [h] at hsm; omega⟩
    clear hsm
    rcases hsm2 with hsm | ⟨hsm, h8⟩
    all_goals
      go_enter Try.func7, Try.ntmps7
      go_wp2_with fail
      refine (awake5_any _).mono ?_
      rintro r w0 ⟨rfl, hm0⟩
      have HM0 := Lib.hid hm0
      clear hm0
      go_wp2_with fail
      refine (small5_any (fun b => b < w.heap.size) A1 n1 c1 8 8 l _ rfl (by omega) HL.out (HR.out.keep HM0.out (fun _ _ => id))).mono ?_
      rintro r w1 ⟨rfl, rfl⟩
      rw [hsm]
      clear hsm
      go_wp2_with fail
      refine (awake5_any _).mono ?_
      rintro r w3 ⟨rfl, hm3⟩
      have HM3 := Lib.hid (HM0.out.trans hm3)
      clear hm3
      go_wp2_with fail
      go_ret
      exact ⟨rfl, HM3.out⟩
end Go.Proofs.Ytjmehamkpmimkaa
