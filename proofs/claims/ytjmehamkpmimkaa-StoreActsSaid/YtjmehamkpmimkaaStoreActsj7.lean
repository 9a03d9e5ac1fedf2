/- Parts of the proof of StoreActs, joined: StoAw RowS RdrX RrdW RjnW RjnX RjnY. -/
import Derived.Test.YtjmehamkpmimkaaStoreActsj6
import Derived.Lib.Strings
namespace Go.Proofs.Ytjmehamkpmimkaa
open Go.RowKit

/-- Which acts of layer 5 are small. -/
def act5Small (a : Act3) : Bool := a.b.length ≤ 600 && a.keep.length ≤ 60
def acts5Small (m : Nat) (l : List Act3) : Bool := l.length ≤ m && l.all act5Small

set_option maxHeartbeats 1600000 in
set_option maxRecDepth 100000 in
theorem small5_any (S : Nat → Prop) (A : Option Addr) (n c m : Nat) (mv : Int) (l : List Act3) (w : World) (hmv : mv = m) (hm : m ≤ 1000) (hn : l.length = n) (hr : ActsAt S w A l) :
    Calls Try.prog 34 #[.slice A n c, .int .i64 mv] w fun r w' => r = .returned (.bool (acts5Small m l)) ∧ w = w' := by
  subst hmv
  have HN := Lib.hid hn
  have HR := Lib.hid hr
  clear hn hr
  by_cases h40 : m < n
  · have hb : acts5Small m l = false := by unfold acts5Small; rw [HN.out]; simp; omega
    rw [hb]
    go_enter Try.func34, Try.ntmps34
    go_wp2_with fail
    go_ret
    exact ⟨rfl, rfl⟩
  · go_enter Try.func34, Try.ntmps34
    go_wp2_with fail
    go_loop [5] (fun i => ∃ k : Nat, k ≤ n ∧ i = .int .i64 k ∧ (l.take k).all act5Small = true) (fun i => n - (intOf i).toNat)
    case atStart => exact ⟨0, Nat.zero_le _, rfl, rfl⟩
    case round =>
      obtain ⟨k, hk, rfl, hall⟩ := hrel
      have HALL := Lib.hid hall
      clear hall
      by_cases hlt : k < n
      · obtain ⟨a, ha⟩ : ∃ a, l[k]? = some a := ⟨_, List.getElem?_eq_getElem (by rw [HN.out]; exact hlt)⟩
        obtain ⟨b, o, rfl, _, _, hat⟩ := HR.out (by rw [HN.out]; omega)
        obtain ⟨h0, h1, h2, ⟨B, cB, h3, hl3, _⟩, K, cK, h4, hl4, _⟩ := hat k a ha
        have HA := Lib.hid ha
        clear hat ha h0 h1 h2
        have hno : act5Small a = false → acts5Small m l = false := fun h => by
          unfold acts5Small
          rw [show l.all act5Small = false by rw [List.all_eq_false]; exact ⟨a, List.mem_of_getElem? HA.out, by rw [h]; simp⟩]
          simp
        have HNO := Lib.hid hno
        clear hno
        by_cases hA : 600 < a.b.length
        · have HBq := Lib.hid (HNO.out (by unfold act5Small; simp; omega))
          go_wp2_with fail
          go_ret
          exact ⟨ret_bool HBq.out.symm, rfl⟩
        by_cases hB : 60 < a.keep.length
        · have HBq := Lib.hid (HNO.out (by unfold act5Small; simp; omega))
          go_wp2_with fail
          go_ret
          exact ⟨ret_bool HBq.out.symm, rfl⟩
        have HS := Lib.hid (show act5Small a = true by unfold act5Small; simp; omega)
        go_wp2_with fail
        go_round
        case rel => exact ⟨k + 1, by omega, by go_num, by rw [List.take_add_one, HA.out]; simp [HS.out]; simpa using HALL.out⟩
        case measure => simp [intOf] <;> omega
      · have HBq := Lib.hid (show acts5Small m l = true by unfold acts5Small; have := HALL.out; rw [List.take_of_length_le (by have := HN.out; omega)] at this; rw [this, HN.out]; simp; omega)
        go_wp2_with fail
        go_ret
        exact ⟨ret_bool HBq.out.symm, rfl⟩

theorem acts5Small_len {m : Nat} {l : List Act3} (h : acts5Small m l = true) : l.length ≤ m := by
  unfold acts5Small at h
  simp at h
  exact h.1
theorem acts5Small_at {m : Nat} {l : List Act3} {k : Nat} {a : Act3} (h : acts5Small m l = true) (ha : l[k]? = some a) : a.b.length ≤ 600 ∧ a.keep.length ≤ 60 := by
  unfold acts5Small at h
  simp at h
  have := h.2 a (List.mem_of_getElem? ha)
  unfold act5Small at this
  simpa using this

/-- A store and its disk in memory; what has turned since w0 is new. -/
def StoOn (w0 : World) (g p : Nat) (d : DSt) (s : SSt) (wr : World) : Prop :=
  ∃ F G, DskAt w0.heap.size wr g F d ∧ StoAt w0.heap.size wr p g G s ∧ (∀ k, F k → ¬ G k) ∧ Mod Nil w0 wr

theorem StoOn.keep0 {w0 wr w1 : World} {g p : Nat} {d : DSt} {s : SSt} (h : StoOn w0 g p d s wr) (hm : Mod Nil wr w1) : StoOn w0 g p d s w1 := by
  obtain ⟨F, G, h1, h2, h3, h4⟩ := h
  exact ⟨F, G, h1.keep0 hm, h2.keep0 hm, h3, h4.trans hm⟩
/-- A call of the disk alone. -/
theorem StoOn.disk {w0 wr w1 : World} {g p : Nat} {F F1 G : Nat → Prop} {d d1 : DSt} {s : SSt} (h1 : DskAt w0.heap.size wr g F d) (h2 : StoAt w0.heap.size wr p g G s) (h3 : ∀ k, F k → ¬ G k) (h4 : Mod Nil w0 wr)
    (hd : DskAt w0.heap.size w1 g F1 d1) (hm : Mod F wr w1) (hF : ∀ k, F1 k → F k ∨ wr.heap.size ≤ k) : StoOn w0 g p d1 s w1 :=
  ⟨F1, G, hd, h2.keep hm (fun k hk hkF => h3 k hkF hk), fun k hk hk2 => (hF k hk).elim (fun h => h3 k h hk2) (fun h => by have := (h2.lt k hk2).2; omega), h4.trans' hm (fun _ _ h => h) (fun k hk hF => absurd hk (by have := (h1.lt k hF).1; omega))⟩
/-- A store that is made. -/
theorem StoMade.on {w0 wr w1 : World} {g : Nat} {F : Nat → Prop} {d d1 : DSt} {t : List UInt8} {r : Ending} (h1 : DskAt w0.heap.size wr g F d) (h4 : Mod Nil w0 wr) (h : StoMade w0.heap.size wr g F d1 0 t r w1) :
    ∃ p, r = .returned (.tuple #[.pointer (some ⟨p, 0, none⟩), .int .i64 0]) ∧ StoOn w0 g p d1 ⟨t, false, 0⟩ w1 := by
  obtain ⟨F', hd, hm, hF, ⟨_, p, G, rfl, hs, hG⟩ | ⟨h0, _⟩⟩ := h
  · exact ⟨p, rfl, F', G, hd, hs, fun k hk hk2 => (hG k hk2).2 hk, h4.trans' hm (fun _ _ h => h) (fun k hk hF => absurd hk (by have := (h1.lt k hF).1; omega))⟩
  · exact absurd rfl h0
theorem SavePost.on {w0 wr w1 : World} {g p : Nat} {F G : Nat → Prop} {d d1 : DSt} {s s1 : SSt} {e : Int} {r : Ending} (h1 : DskAt w0.heap.size wr g F d) (h2 : StoAt w0.heap.size wr p g G s) (h4 : Mod Nil w0 wr) (h : SavePost w0.heap.size wr p g F G s1 d1 e r w1) :
    r = .returned (.int .i64 e) ∧ StoOn w0 g p d1 s1 w1 := by
  obtain ⟨rfl, F', G', hd, hs, hFG, hm, hF, hG⟩ := h
  refine ⟨rfl, F', G', hd, hs, hFG, h4.trans' hm (fun _ _ h => h) (fun k hk hkF => absurd hk ?_)⟩
  rcases hkF with hkF | hkF
  · have := (h1.lt k hkF).1; omega
  · have := (h2.lt k hkF).1; omega

theorem Rd.cellsIn (w : World) (cs : Array Value) (t : TypeId) (fr : Nat × Nat) {g : Nat} (hg : g = w.heap.size) : Rd (fun j => j = g) (w.alloc (.cells cs t fr)) (some ⟨g, 0, none⟩) cs.toList := fun hn => by
  obtain ⟨ad, e, _, hb, hc⟩ := Rd.cells w cs t fr hg hn
  injection e with e
  subst e
  exact ⟨_, rfl, rfl, hb, hc⟩

set_option maxHeartbeats 6400000 in
set_option maxRecDepth 100000 in
theorem awake5_any (w : World) : Calls Try.prog 33 #[] w fun r w' => r = .returned (.bool true) ∧ Mod Nil w w' := by
  have hz := newS_sized (n := 10) (by omega) (by omega)
  have hA : jA 10 = 4 := by decide
  rw [hA] at hz
  obtain ⟨hf1, hf2⟩ := format_good (T := [97]) hz (by simp) rfl rfl
  have HN := Lib.hid (dskNew_ok 10 w (by omega) (by omega))
  rw [show (⟨List.replicate (64 * 10) 0, [], -1⟩ : DSt) = newS 10 from rfl] at HN
  obtain ⟨s0, hs0⟩ : ∃ s0, s0 = newS 10 := ⟨_, rfl⟩
  rw [← hs0] at hf1 hf2 HN
  have hw0 : s0.ws.length ≤ 400000 ∧ s0.left ≤ 9223372036854775807 := by rw [hs0]; simp [newS]
  obtain ⟨hf3, hf4⟩ := format_stood (t := sealed [97]) hz (by rw [sealed_len]; simp) rfl rfl
  rw [← hs0] at hf3 hf4
  have hp := hf3.to_put (t := sealed [98]) (hs0 ▸ hz) hf4 (by rw [sealed_len]; simp)
  obtain ⟨s1, hs1⟩ : ∃ s1, s1 = (jFormat (sealed [97]) s0).1 := ⟨_, rfl⟩
  rw [← hs1] at hf2 hf4 hp
  have hsv : sSave [98] ⟨[97], false, 0⟩ s1 = (⟨[98], false, 1⟩, (jPut (sealed [98]) s1).1, 0) := by
    unfold sSave
    rw [if_neg (by simp), if_pos hp.1]
    rfl
  obtain ⟨X, hX, hX0, hbd, hcr⟩ := save_crash (t := [98]) (s := ⟨[97], false, 0⟩) hf2 (by simp) rfl
  rw [hsv] at hX0 hbd hcr
  obtain rfl := hX0 rfl
  obtain ⟨s2, hs2⟩ : ∃ s2, s2 = (jPut (sealed [98]) s1).1 := ⟨_, rfl⟩
  rw [← hs2] at hsv hbd hcr
  have hcr := hcr [] (-1) 0
  obtain ⟨s3, hs3⟩ : ∃ s3, s3 = s2.crash [] (-1) 0 := ⟨_, rfl⟩
  rw [← hs3] at hcr
  obtain ⟨Y, hY, ho, hgd, hgl⟩ := open_left hcr (by simp) (by simp)
  obtain rfl : Y = [98] := by rcases hY with h | h <;> exact h
  have HF1 := Lib.hid hf1
  have HS1 := Lib.hid hs1
  have HG1 := Lib.hid hf2
  have HW0 := Lib.hid hw0
  have HSV := Lib.hid hsv
  have HBD := Lib.hid hbd
  have HS3 := Lib.hid hs3
  have HLE := Lib.hid hcr
  have HO := Lib.hid ho
  have HGL := Lib.hid hgl
  clear hz hA hf1 hf2 hf3 hf4 hp hs0 hw0 hsv hX hX0 hbd hcr hs1 hs2 hs3 hY ho hgd hgl
  have kc := fun (w : World) (C : Array Value) (n c : Nat) => Lib.run_convert_bytes_const (P := Try.prog) w 36 5 C n c Try.underlying36 Try.underlying5
  go_enter Try.func33, Try.ntmps33
  go_wp2_with fail
  refine HN.out.mono ?_
  rintro r w1 ⟨g, F, rfl, hd1, hm1⟩
  have HD1 := Lib.hid hd1
  have HM1 := Lib.hid hm1
  clear hd1 hm1
  go_wp2_with fail
  have hM2 : Mod Nil w1 (w1.alloc (.cells #[.int .u8 97] 5 (1, 2))) := (Mod.refl Nil w1).alloc _
  have hlt1 : ∀ k, F k → k < w1.heap.size := fun k hk => (HD1.out.lt k hk).2
  refine (stoFormat_any w.heap.size g F (fun k => k = w1.heap.size) s0 (some ⟨w1.heap.size, 0, none⟩) 1 1 [97] _ (HD1.out.keep0 hM2) (by have := HM1.out.size; simp; omega) rfl (by omega) (Rd.cellsIn w1 #[.int .u8 97] 5 (1, 2) rfl) (fun k hk hF => by have := hlt1 k hF; omega) HW0.out.1 HW0.out.2).mono ?_
  intro r w2 hmd
  rw [HF1.out, ← HS1.out] at hmd
  obtain ⟨p, rfl, hon⟩ := StoMade.on (w0 := w) (HD1.out.keep0 hM2) (HM1.out.trans hM2) hmd
  have HON := Lib.hid hon
  clear hmd hon hM2
  go_wp2_with fail
  obtain ⟨F2, G2, hd2, hs2, hFG2, hm2⟩ := HON.out
  have HFL := Lib.hid (show ∀ k, (F2 k ∨ G2 k) → k < w2.heap.size from fun k hk => hk.elim (fun h => (hd2.lt k h).2) (fun h => (hs2.lt k h).2))
  have HD2 := Lib.hid hd2
  have HS2 := Lib.hid hs2
  have HFG2 := Lib.hid hFG2
  have HM2 := Lib.hid hm2
  clear hd2 hs2 hFG2 hm2
  have hM3 : Mod Nil w2 (w2.alloc (.cells #[.int .u8 98] 5 (1, 2))) := (Mod.refl Nil w2).alloc _
  have hbg := HG1.out.left
  have hws := HG1.out.ws
  refine (stoSave_any w.heap.size p g F2 G2 (fun k => k = w2.heap.size) ⟨[97], false, 0⟩ s1 (some ⟨w2.heap.size, 0, none⟩) 1 1 [98] _ (HD2.out.keep0 hM3) (HS2.out.keep0 hM3) HFG2.out (by have := HM2.out.size; simp; omega) rfl (by omega) (Rd.cellsIn w2 #[.int .u8 98] 5 (1, 2) rfl) (fun k hk hF => by have := HFL.out k (.inl hF); omega) (by rw [hws]; simp) hbg (by simp)).mono ?_
  intro r w3 hsv
  obtain ⟨rfl, hon⟩ := SavePost.on (w0 := w) (HD2.out.keep0 hM3) (HS2.out.keep0 hM3) (HM2.out.trans hM3) hsv
  rw [HSV.out] at hon ⊢
  have HON3 := Lib.hid hon
  clear hsv hon hM3 hbg hws
  go_wp2_with fail
  obtain ⟨F3, G3, hd3, hs3, hFG3, hm3⟩ := HON3.out
  have HD3 := Lib.hid hd3
  have HS3w := Lib.hid hs3
  have HFG3 := Lib.hid hFG3
  have HM3 := Lib.hid hm3
  clear hd3 hs3 hFG3 hm3
  refine (dskCrash_any w.heap.size g F3 s2 none 0 0 [] (-1) 0 (fun k => False) _ HD3.out (by have := HBD.out.1; omega) rfl (by simp [maxLen]) (Rd.nil _ _ _) (fun k hk => hk.elim)).mono ?_
  rintro r w4 ⟨rfl, F4, hd4, hm4, hF4⟩
  rw [← HS3.out] at hd4
  have HON4 := Lib.hid (StoOn.disk HD3.out HS3w.out HFG3.out HM3.out hd4 hm4 hF4)
  clear hd4 hm4 hF4
  go_wp2_with fail
  obtain ⟨F5, G5, hd5, hs5, hFG5, hm5⟩ := HON4.out
  have HD5 := Lib.hid hd5
  have HM5 := Lib.hid hm5
  clear hd5 hs5 hFG5 hm5
  refine (stoOpen_any w.heap.size g F5 s3 _ HD5.out HM5.out.size (by rw [HLE.out.sound.ws]; simp) (by rw [HLE.out.sound.left]; omega) (by rw [HGL.out, sealed_len]; simp)).mono ?_
  intro r w6 hmd
  rw [HO.out] at hmd
  obtain ⟨q, rfl, hon⟩ := StoMade.on (w0 := w) HD5.out HM5.out hmd
  have HON6 := Lib.hid hon
  clear hmd hon
  go_wp2_with fail
  obtain ⟨F6, G6, hd6, hs6, hFG6, hm6⟩ := HON6.out
  have HS6 := Lib.hid hs6
  have HM6 := Lib.hid hm6
  clear hd6 hs6 hFG6 hm6
  refine (text_any w.heap.size q g G6 _ _ HS6.out).mono ?_
  rintro r w7 ⟨A7, c7, rfl, ho7, hm7⟩
  have kb := conv_bytes (l := [98]) (n := 1) (Rd.of_own ho7) rfl c7
  have hb : ((str [98]).toList == [98]) = true := by rw [ByteArray.toList_eq, str_list]; rfl
  have HM7 := Lib.hid (HM6.out.trans hm7)
  clear ho7 hm7
  go_wp2_with fail
  go_ret
  exact ⟨rfl, HM7.out⟩
end Go.Proofs.Ytjmehamkpmimkaa

namespace Go.Proofs.Ytjmehamkpmimkaa
open Go.RowKit Go.ChangeShapes Go.WideShapes Go.Deep

section
variable {H : Type} {enc : TypeId × Value → H} {w : World}

/-- The argument of the laws of layer 5; its numbers are ints. -/
theorem open_acts5 {a : Option Addr} {len cap : Nat} {d : DataW H} {p : List MemPlace}
    (h : DataW.Trod enc Try.prog w 0 (fun _ => true) true 61 (.slice a len cap) d p) :
    ∃ l : List Act3, (l.length = len ∧ ActsAt All w a l) ∧ ∀ f ∈ l, f.n ≤ 9223372036854775807 := by
  obtain ⟨fuel, hf⟩ := h
  rcases open_slice_fields Try.underlying61 Try.underlying66 (by kernel_rfl) (by kernel_rfl) hf with ⟨hcs, _⟩ | ⟨x, l, c, m, D, Pl, hcs, _, hl, hm, hmm, _, hat⟩
  · simp [Value.cells] at hcs
    obtain ⟨rfl, rfl, rfl⟩ := hcs
    exact ⟨[], ⟨rfl, fun h => by simp at h⟩, fun f hf => by simp at hf⟩
  · simp [Value.cells] at hcs
    obtain ⟨rfl, rfl, rfl⟩ := hcs
    have hm2 : m = cap := by simpa using hmm
    subst hm2
    have each : ∀ i, i < len → ∃ f : Act3, f.n ≤ 9223372036854775807 ∧ w.cell? (x.add (i * 5)) = some (.int .i64 f.kind) ∧ w.cell? (x.add (i * 5 + 1)) = some (.int .i64 f.n) ∧ w.cell? (x.add (i * 5 + 2)) = some (.int .i64 f.m) ∧
        (∃ B c, w.cell? (x.add (i * 5 + 3)) = some (.slice B f.b.length c) ∧ f.b.length ≤ maxLen ∧ Rd All w B (f.b.map bv)) ∧
        ∃ K c, w.cell? (x.add (i * 5 + 4)) = some (.slice K f.keep.length c) ∧ f.keep.length ≤ maxLen ∧ Rd All w K (f.keep.map Value.bool) := by
      intro i hi
      obtain ⟨ys, n, _, _, _, hfld⟩ := hat i (by omega)
      obtain ⟨v0, y0, c0, _, t0⟩ := hfld 0 _ rfl
      obtain ⟨v1, y1, c1, _, t1⟩ := hfld 1 _ rfl
      obtain ⟨v2, y2, c2, _, t2⟩ := hfld 2 _ rfl
      obtain ⟨v3, y3, c3, _, t3⟩ := hfld 3 _ rfl
      obtain ⟨v4, y4, c4, _, t4⟩ := hfld 4 _ rfl
      obtain ⟨kind, e0, _, _⟩ := DataW.trod_int Try.underlying3 t0
      obtain ⟨num, e1, _, wnum⟩ := DataW.trod_int Try.underlying3 t1
      obtain ⟨num2, e2, _, _⟩ := DataW.trod_int Try.underlying3 t2
      obtain ⟨B, ls, c, e3, h1, h2⟩ := open_oct t3
      obtain ⟨K, bs, d, e4, h3, h4⟩ := open_boolsl t4
      injection e0 with e0
      injection e1 with e1
      injection e2 with e2
      subst e0 e1 e2 e3 e4
      exact ⟨⟨kind, num, num2, ls, bs⟩, (by have := bounds_i64 wnum; show num ≤ _; omega), c0, c1, c2, ⟨B, c, c3, h1, h2⟩, K, d, c4, h3, h4⟩
    obtain ⟨F, hF⟩ : ∃ F : Nat → Act3, ∀ i, i < len → (F i).n ≤ 9223372036854775807 ∧ w.cell? (x.add (i * 5)) = some (.int .i64 (F i).kind) ∧ w.cell? (x.add (i * 5 + 1)) = some (.int .i64 (F i).n) ∧ w.cell? (x.add (i * 5 + 2)) = some (.int .i64 (F i).m) ∧
        (∃ B c, w.cell? (x.add (i * 5 + 3)) = some (.slice B (F i).b.length c) ∧ (F i).b.length ≤ maxLen ∧ Rd All w B ((F i).b.map bv)) ∧
        ∃ K c, w.cell? (x.add (i * 5 + 4)) = some (.slice K (F i).keep.length c) ∧ (F i).keep.length ≤ maxLen ∧ Rd All w K ((F i).keep.map Value.bool) :=
      ⟨fun i => if h : i < len then (each i h).choose else ⟨0, 0, 0, [], []⟩, fun i hi => by simp only [hi, dif_pos]; exact (each i hi).choose_spec⟩
    refine ⟨(List.range len).map F, ⟨by simp, fun hn => ?_⟩, fun f hf => by obtain ⟨i, hi, rfl⟩ := List.mem_map.1 hf; exact (hF i (List.mem_range.1 hi)).1⟩
    have hn' : 0 < len := by simpa using hn
    have hspot : x.spot = none := by
      have h0 := (hF 0 hn').2.1
      have := cell_spot h0
      rwa [Nat.zero_mul, add_zero] at this
    have hb : x.block < w.heap.size := by
      have h0 := (hF 0 hn').2.1
      rw [Nat.zero_mul, add_zero] at h0
      exact World.block_lt_of_cell? w x h0
    refine ⟨x.block, x.off, by obtain ⟨b, o, s⟩ := x; simp only at hspot; rw [hspot], trivial, hb, fun i f hi => ?_⟩
    have hil : i < len := by
      have := (List.getElem?_eq_some_iff.1 hi).1
      simpa using this
    have hfi : F i = f := by simpa [hil] using hi
    subst hfi
    obtain ⟨_, h0, h1, h2, ⟨B, c, h3, hr3⟩, K, d, h4, hr4⟩ := hF i hil
    rw [add_lit' hspot] at h0 h1 h2 h3 h4
    exact ⟨h0, by rw [Nat.add_assoc]; exact h1, by rw [Nat.add_assoc]; exact h2, ⟨B, c, by rw [Nat.add_assoc]; exact h3, hr3⟩, K, d, by rw [Nat.add_assoc]; exact h4, hr4⟩

theorem open_texts {a : Option Addr} {len cap : Nat} {d : DataW H} {p : List MemPlace}
    (h : DataW.Trod enc Try.prog w 0 (fun _ => true) true 59 (.slice a len cap) d p) :
    ∃ ps : List (List UInt8), ps.length = len ∧ Parts All w a ps := by
  obtain ⟨fuel, hf⟩ := h
  rcases open_slice Try.underlying59 hf with ⟨hcs, _⟩ | ⟨x, l, c, m, n, D, Pl, hcs, _, hl, hm, hmm, _, hat⟩
  · simp [Value.cells] at hcs
    obtain ⟨rfl, rfl, rfl⟩ := hcs
    exact ⟨[], rfl, parts_nil _ _ _⟩
  · simp [Value.cells] at hcs
    obtain ⟨rfl, rfl, rfl⟩ := hcs
    have hm2 : m = cap := by simpa using hmm
    subst hm2
    have hC : Try.prog.cellsOf 36 = 1 := by kernel_rfl
    have each : ∀ i, i < len → ∃ (q : List UInt8) (B : Option Addr) (c : Nat), w.cell? (x.add i) = some (.slice B q.length c) ∧ q.length ≤ maxLen ∧ Rd All w B (q.map bv) := by
      intro i hi
      obtain ⟨cs', hc, ht'⟩ := hat i (by omega)
      rw [hC, Nat.mul_one] at hc
      obtain ⟨_, hcl, hcell⟩ := World.cells?_some hc
      obtain ⟨v, rfl⟩ : ∃ v, cs' = [v] := List.length_eq_one_iff.1 hcl
      obtain ⟨B, q, cc, rfl, h1, h2⟩ := open_oct ht'
      have h0 := hcell 0 (by omega)
      rw [add_zero] at h0
      exact ⟨q, B, cc, h0, h1, h2⟩
    obtain ⟨Q, hQ⟩ : ∃ Q : Nat → List UInt8, ∀ i, i < len → ∃ (B : Option Addr) (c : Nat), w.cell? (x.add i) = some (.slice B (Q i).length c) ∧ (Q i).length ≤ maxLen ∧ Rd All w B ((Q i).map bv) :=
      ⟨fun i => if h : i < len then (each i h).choose else [], fun i hi => by simp only [hi, dif_pos]; exact (each i hi).choose_spec⟩
    obtain ⟨V, hV⟩ : ∃ V : Nat → Value, ∀ i, i < len → w.cell? (x.add i) = some (V i) ∧ ∃ (B : Option Addr) (c : Nat), V i = .slice B (Q i).length c ∧ (Q i).length ≤ maxLen ∧ Rd All w B ((Q i).map bv) :=
      ⟨fun i => if h : i < len then .slice (hQ i h).choose (Q i).length (hQ i h).choose_spec.choose else undef, fun i hi => by
        simp only [hi, dif_pos]
        obtain ⟨h1, h2, h3⟩ := (hQ i hi).choose_spec.choose_spec
        exact ⟨h1, _, _, rfl, h2, h3⟩⟩
    refine ⟨(List.range len).map Q, by simp, (List.range len).map V, fun hn => ?_, by simp, fun i q hq => ?_⟩
    · have hn' : 0 < len := by simpa using hn
      have hb : x.block < w.heap.size := by
        have h0 := (hV 0 hn').1
        rw [add_zero] at h0
        exact World.block_lt_of_cell? w x h0
      refine ⟨x, rfl, trivial, hb, fun j u hu => ?_⟩
      have hj : j < len := by
        have := (List.getElem?_eq_some_iff.1 hu).1
        simpa using this
      rw [(hV j hj).1, ← hu]
      simp [hj]
    · have hil : i < len := by
        have := (List.getElem?_eq_some_iff.1 hq).1
        simpa using this
      have hqi : Q i = q := by simpa [hil] using hq
      subst hqi
      obtain ⟨_, B, cc, hv, h2, h3⟩ := hV i hil
      exact ⟨B, cc, by simp [hil, hv], h2, h3⟩
end
end Go.Proofs.Ytjmehamkpmimkaa

namespace Go.Proofs.Ytjmehamkpmimkaa
open Go.RowKit

theorem RdrAt.blk_ {S : Nat → Prop} {g : Nat} {w : World} {s : RSt} (h : RdrAt S w g s) : ∃ A c, Blk w g 136 #[.slice A s.1.length c, .int .i64 s.2] ∧ s.1.length ≤ c ∧ c ≤ maxLen ∧ Rd S w A (s.1.map bv) ∧ ¬ S g := h

theorem RdrAt.back {S : Nat → Prop} {g : Nat} {w : World} {s : RSt} {l0 : List UInt8} {A0 : Option Addr} {c0 : Nat} (h : RdrAt S w g s) (hr : Rd S w A0 (l0.map bv)) (hc : l0.length ≤ c0) (hm : c0 ≤ maxLen) :
    RdrAt S (w.setCell ⟨g, 0, none⟩ (.slice A0 l0.length c0)) g (l0, s.2) := by
  obtain ⟨A, c, h1, _, _, _, hB⟩ := h
  exact ⟨A0, c0, by simpa using h1.set_ 0 _, hc, hm, rd_far hr (fun k hk hkg => hB (hkg ▸ hk)), hB⟩

theorem at_g {S : Nat → Prop} {g : Nat} {w w1 : World} {A : Option Addr} {xs : List Value} (h : Rd S w A xs) (hg : ¬ S g) (hm : Mod (fun k => k = g) w w1) : Rd S w1 A xs := h.keep hm (fun k hk hkg => hg (hkg ▸ hk))

/-- The value of a text. -/
def sv (l : List UInt8) : Value := .string (str l)
theorem str_info : (Try.prog.info? 9).map (fun i => (i.zero, i.size, i.bytes)) = some (some (.string ⟨#[]⟩), 1, 16) := by kernel_rfl

theorem rLoop_err (n : Nat) (s : RSt) (h : s.2 ≠ 0) : rLoop n s = ([], s) := by
  cases n with
  | zero => rfl
  | succ n => rw [rLoop, if_neg h]
theorem rLoop_step (n : Nat) (s : RSt) (h : s.2 = 0) : rLoop (n + 1) s = ((rText s).1 :: (rLoop n (rText s).2).1, (rLoop n (rText s).2).2) := by rw [rLoop, if_pos h]

/-- Where Texts stands. -/
def TxAt (S : Nat → Prop) (g : Nat) (w : World) (N : Nat) (s1 : RSt) (k : Nat) (v : Value) (wr : World) : Prop :=
  ∃ (out : List (List UInt8)) (sk : RSt), wr.ownsRow w.heap.size 9 1 v k (out.map sv) ∧ RdrAt S wr g sk ∧ Mod (fun j => j = g) w wr ∧ rLoop N s1 = (out ++ (rLoop (N - k) sk).1, (rLoop (N - k) sk).2)

end Go.Proofs.Ytjmehamkpmimkaa

namespace Go.Proofs.Ytjmehamkpmimkaa
open Go.RowKit

theorem str_cut (S : List UInt8) (a b : Nat) : (str S).extract a b = str ((S.drop a).take (b - a)) := by
  apply ByteArray.ext
  apply Array.toList_inj.1
  rw [Lib.extract_data]
  simp [str]
theorem str_take (S : List UInt8) (k : Nat) : (str S).extract 0 k = str (S.take k) := by rw [str_cut]; simp
theorem str_drop (S : List UInt8) (k n : Nat) (h : n = S.length) : (str S).extract k n = str (S.drop k) := by rw [str_cut, List.take_of_length_le (by simp [h])]

set_option maxHeartbeats 1600000 in
set_option maxRecDepth 100000 in
theorem refValue_any (l : List UInt8) (w : World) (hl : l.length ≤ 8) :
    Calls Try.prog 95 #[.string (str l)] w fun r w' => r = .returned (.int .u64 (beVal l : Nat)) ∧ w = w' := by
  have hs := str_size l
  obtain ⟨N, hN⟩ : ∃ N, N = l.length := ⟨_, rfl⟩
  rw [← hN] at hs hl
  have HN := Lib.hid hN
  clear hN
  go_enter Try.func95, Try.ntmps95
  go_wp2_with fail
  go_loop [3, 4] (fun r i => ∃ k : Nat, k ≤ N ∧ i = .int .i64 k ∧ r = .int .u64 (beVal (l.take k) : Nat)) (fun _ i => N - (intOf i).toNat)
  case atStart => exact ⟨0, Nat.zero_le _, rfl, rfl⟩
  case round =>
    obtain ⟨k, hk, rfl, rfl⟩ := hrel
    by_cases hlt : k < N
    · have hks : k < (str l).size := by rw [hs]; exact hlt
      obtain ⟨ch, hch⟩ : ∃ ch : UInt8, ch = (str l)[k] := ⟨_, rfl⟩
      have hgk : l[k]? = some ch := by rw [hch, List.getElem?_eq_getElem (by rw [← HN.out]; exact hlt)]; rfl
      have HNX := Lib.hid (show beVal (l.take (k + 1)) = beVal (l.take k) * 256 + ch.toNat by rw [List.take_add_one, hgk]; exact beVal_snoc _ _)
      obtain ⟨V, hV⟩ : ∃ V, V = beVal (l.take k) := ⟨_, rfl⟩
      have hVl : V < 72057594037927936 := by
        have := beVal_lt (l.take k)
        rw [← hV] at this
        have h2 : (l.take k).length ≤ 7 := by rw [List.length_take]; omega
        have h3 : (256 : Nat) ^ (l.take k).length ≤ 256 ^ 7 := Nat.pow_le_pow_right (by omega) h2
        omega
      rw [← hV] at HNX ⊢
      have hc256 := ch.toNat_lt
      have HCH := Lib.hid hch
      clear hgk hV hch
      go_wp2_with fail
      rw [← HCH.out]
      go_round
      case rel => exact ⟨k + 1, by omega, by go_num, by rw [wraps_u64 (ch.toNat : Int) (by omega) (by omega), wraps_u64 _ (by omega) (by omega), HNX.out]; rfl⟩
      case measure => simp [intOf] <;> omega
    · have HF := Lib.hid (show beVal (l.take k) = beVal l by rw [List.take_of_length_le (by have := HN.out; omega)])
      go_wp2_with fail
      go_ret
      refine ⟨?_, rfl⟩
      first
        | rfl
        | (rw [HF.out]; done)
        | (show Ending.returned (.int .u64 _) = _; rw [HF.out])

/-- The document's reader at g. -/
def RrdAt (w : World) (g : Nat) (s : RSt) : Prop := Blk w g 113 #[.string (str s.1), .int .i64 s.2]
theorem RrdAt.keep {F : Nat → Prop} {w w' : World} {g : Nat} {s : RSt} (h : RrdAt w g s) (hm : Mod F w w') (hF : ¬ F g) : RrdAt w' g s := Blk.keep h hm hF
def RrdPost (g : Nat) (w : World) (s : RSt) (e : Ending) (r : Ending) (w' : World) : Prop := r = e ∧ RrdAt w' g s ∧ Mod (fun k => k = g) w w'

theorem RrdAt.err {w : World} {g : Nat} {s : RSt} (h : RrdAt w g s) (e : Int) : RrdAt (w.setCell ⟨g, 1, none⟩ (.int .i64 e)) g (s.1, e) := by
  have := Blk.set_ h 1 (.int .i64 e)
  unfold RrdAt
  simpa using this
theorem RrdAt.text {w : World} {g : Nat} {s : RSt} (h : RrdAt w g s) (l : List UInt8) : RrdAt (w.setCell ⟨g, 0, none⟩ (.string (str l))) g (l, s.2) := by
  have := Blk.set_ h 0 (.string (str l))
  unfold RrdAt
  simpa using this
theorem mod_set (w : World) (g i : Nat) (v : Value) : Mod (fun k => k = g) w (w.setCell ⟨g, i, none⟩ v) := (Mod.refl (fun k => k = g) w).set (p := ⟨g, i, none⟩) (.inl rfl) v

set_option maxHeartbeats 1600000 in
set_option maxRecDepth 100000 in
theorem rrnum_any (g : Nat) (s : RSt) (w : World) (h : RrdAt w g s) (hbig : s.1.length ≤ 1000000000) :
    Calls Try.prog 76 #[.pointer (some ⟨g, 0, none⟩)] w (RrdPost g w (rNum s).2 (.returned (.int .i64 ((rNum s).1 : Nat)))) := by
  have H := Lib.hid h
  have hc0 := Blk.cell h 0
  have hc1 := Blk.cell h 1
  have hf0 := Blk.frozen h 0
  have hf1 := Blk.frozen h 1
  have hgl := Blk.lt h
  have hs := str_size s.1
  clear h
  obtain ⟨l, e⟩ := s
  replace hc0 : w.cell? ⟨g, 0, none⟩ = some (.string (str l)) := hc0
  replace hc1 : w.cell? ⟨g, 1, none⟩ = some (.int .i64 e) := hc1
  replace hs : (str l).size = l.length := hs
  replace hbig : l.length ≤ 1000000000 := hbig
  by_cases he : e = 0
  · subst he
    by_cases hl : l.length < 4
    · have HE := Lib.hid (show rNum (l, 0) = (0, (l, 10)) by simp [rNum, hl])
      rw [HE.out]
      go_enter Try.func76, Try.ntmps76
      go_wp2_with fail
      go_ret
      exact ⟨rfl, H.out.err 10, mod_set _ _ _ _⟩
    · have ht := str_take l 4
      have hdr := str_drop l 4 l.length rfl
      obtain ⟨V, hV⟩ : ∃ V, V = beVal (l.take 4) := ⟨_, rfl⟩
      have hVl : V < 4294967296 := by
        have := beVal_lt (l.take 4)
        rw [← hV] at this
        have h2 : (l.take 4).length ≤ 4 := by rw [List.length_take]; omega
        have h3 : (256 : Nat) ^ (l.take 4).length ≤ 256 ^ 4 := Nat.pow_le_pow_right (by omega) h2
        omega
      have HC := Lib.hid (refValue_any (l.take 4) w (by rw [List.length_take]; omega))
      rw [← hV] at HC
      by_cases hv : 2147483647 < V
      · have HE := Lib.hid (show rNum (l, 0) = (0, (l, 11)) by simp [rNum, hl, ← hV, hv])
        rw [HE.out]
        clear hV
        go_enter Try.func76, Try.ntmps76
        go_wp2_with fail
        refine HC.out.mono ?_
        rintro r w1 ⟨rfl, rfl⟩
        go_wp2_with fail
        go_ret
        exact ⟨rfl, H.out.err 11, mod_set _ _ _ _⟩
      · have HE := Lib.hid (show rNum (l, 0) = (V, (l.drop 4, 0)) by simp [rNum, hl, ← hV, hv])
        rw [HE.out]
        clear hV
        go_enter Try.func76, Try.ntmps76
        go_wp2_with fail
        refine HC.out.mono ?_
        rintro r w1 ⟨rfl, rfl⟩
        go_wp2_with fail
        go_ret
        exact ⟨rfl, H.out.text _, mod_set _ _ _ _⟩
  · have he0 : (e != 0) = true := by simp [he]
    have HE := Lib.hid (show rNum (l, e) = (0, (l, e)) by simp [rNum, he])
    rw [HE.out]
    clear he
    go_enter Try.func76, Try.ntmps76
    go_wp2_with fail
    go_ret
    exact ⟨rfl, H.out, Mod.refl _ _⟩

end Go.Proofs.Ytjmehamkpmimkaa

namespace Go.Proofs.Ytjmehamkpmimkaa
open Go.RowKit

/-- What a disk's size is. -/
def Szd (s : DSt) : Prop := 1 ≤ s.secs ∧ s.secs ≤ 65536 ∧ s.S.length = 64 * s.secs ∧ DOk s
theorem Szd.to {s s' : DSt} (h : Szd s) (hl : s'.S.length = s.S.length) (hd : DOk s') : Szd s' := by
  have e : s'.secs = s.secs := by unfold DSt.secs; rw [hl]
  exact ⟨e ▸ h.1, e ▸ h.2.1, by rw [hl, e]; exact h.2.2.1, hd⟩

theorem RdkAt.cell0 {B g : Nat} {F : Nat → Prop} {s : DSt} {w : World} (h : RdkAt B w g F s) : w.cell? ⟨g, 0, none⟩ = some (.string (str s.S)) := by
  obtain ⟨vw, _, h⟩ := h
  exact h.blk.cell 0

set_option maxHeartbeats 1600000 in
set_option maxRecDepth 100000 in
theorem rarea_any (B g : Nat) (F : Nat → Prop) (s : DSt) (w : World) (h : RdkAt B w g F s) (hz : Szd s) :
    Calls Try.prog 60 #[.pointer (some ⟨g, 0, none⟩)] w fun r w' => r = .returned (.int .i64 (jA s.secs : Nat)) ∧ w = w' := by
  have hc0 := h.cell0
  have hs := str_size s.S
  obtain ⟨M, hM⟩ : ∃ M, M = s.secs := ⟨_, rfl⟩
  obtain ⟨h1, h2, h3, _⟩ := hz
  rw [← hM] at h1 h2 h3 ⊢
  have hj : jA M ≤ 32767 := by unfold jA; omega
  obtain ⟨N, hN⟩ : ∃ N, N = s.S.length := ⟨_, rfl⟩
  rw [← hN] at hs h3
  have ht1 : Int.tdiv (N : Int) 64 = (M : Int) := by rw [Int.tdiv_eq_ediv_of_nonneg (by omega)]; omega
  have ht : Int.tdiv ((M : Int) - 2) 2 = ((jA M : Nat) : Int) := by
    unfold jA
    rcases Nat.lt_or_ge M 2 with h | h
    · obtain rfl : M = 1 := by omega
      rfl
    · rw [Int.tdiv_eq_ediv_of_nonneg (by omega)]
      omega
  have H3 := Lib.hid h3
  have hN9 : N ≤ 4194304 := by omega
  clear h hN hM h3
  go_enter Try.func60, Try.ntmps60
  go_wp2_with fail
  go_ret
  first
    | exact ⟨rfl, rfl⟩
    | exact ⟨ret_int ht, rfl⟩

set_option maxHeartbeats 1600000 in
set_option maxRecDepth 100000 in
theorem rfits_any (B g : Nat) (F : Nat → Prop) (s : DSt) (t : List UInt8) (w : World) (h : RdkAt B w g F s) (hz : Szd s) :
    Calls Try.prog 58 #[.pointer (some ⟨g, 0, none⟩), .string (str t)] w fun r w' => r = .returned (.int .i64 (jFits s t)) ∧ w = w' := by
  have hc0 := h.cell0
  have hs := str_size s.S
  have hst := str_size t
  obtain ⟨M, hM⟩ : ∃ M, M = s.secs := ⟨_, rfl⟩
  obtain ⟨h1, h2, h3, _⟩ := hz
  rw [← hM] at h1 h2 h3
  obtain ⟨N, hN⟩ : ∃ N, N = s.S.length := ⟨_, rfl⟩
  rw [← hN] at hs h3
  have ht1 : Int.tdiv (N : Int) 64 = (M : Int) := by rw [Int.tdiv_eq_ediv_of_nonneg (by omega)]; omega
  have hN9 : N ≤ 4194304 := by omega
  obtain ⟨T, hT⟩ : ∃ T, T = t.length := ⟨_, rfl⟩
  rw [← hT] at hst
  obtain ⟨R, hR⟩ : ∃ R, R = jRoom s.secs := ⟨_, rfl⟩
  have HC := Lib.hid (fun w => refRoom4_any (M : Int) w)
  rw [hM, ← hR, ← hM] at HC
  have H3 := Lib.hid h3
  by_cases g1 : R < 0
  · have HE := Lib.hid (show jFits s t = 2 by unfold jFits; rw [← hR, if_pos g1])
    clear h hN hM h3 hR hT
    go_enter Try.func58, Try.ntmps58
    go_wp2_with fail
    refine (HC.out _).mono ?_
    rintro r w1 ⟨rfl, rfl⟩
    go_wp2_with fail
    go_ret
    exact ⟨ret_int HE.out.symm, rfl⟩
  · by_cases g2 : R < (T : Int)
    · have HE := Lib.hid (show jFits s t = 21 by unfold jFits; rw [← hR, if_neg g1, ← hT, if_pos g2])
      clear h hN hM h3 hR hT
      go_enter Try.func58, Try.ntmps58
      go_wp2_with fail
      refine (HC.out _).mono ?_
      rintro r w1 ⟨rfl, rfl⟩
      go_wp2_with fail
      go_ret
      exact ⟨ret_int HE.out.symm, rfl⟩
    · have HE := Lib.hid (show jFits s t = 0 by unfold jFits; rw [← hR, if_neg g1, ← hT, if_neg g2])
      clear h hN hM h3 hR hT
      go_enter Try.func58, Try.ntmps58
      go_wp2_with fail
      refine (HC.out _).mono ?_
      rintro r w1 ⟨rfl, rfl⟩
      go_wp2_with fail
      go_ret
      exact ⟨ret_int HE.out.symm, rfl⟩

theorem encNum_be (n : Nat) (h : n ≤ 2147483647) : encNum (n : Int) = beBytes 4 n := by
  unfold encNum
  rw [if_neg (by omega)]
  rfl

set_option maxHeartbeats 1600000 in
set_option maxRecDepth 100000 in
theorem rform_any (t : List UInt8) (a : Nat) (w : World) (ht : 4 + t.length ≤ 64 * a) (ha : a ≤ 32767) :
    Calls Try.prog 59 #[.string (str t), .int .i64 (a : Int)] w fun r w' => r = .returned (.string (str (jArea a t))) ∧ Mod Nil w w' := by
  have hst := str_size t
  obtain ⟨T, hT⟩ : ∃ T, T = t.length := ⟨_, rfl⟩
  rw [← hT] at hst ht
  have HC := Lib.hid (refNum_any (T : Int) w)
  rw [encNum_be T (by omega)] at HC
  have h1 : str (beBytes 4 T) ++ str t = str (beBytes 4 T ++ t) := str_append _ _
  have h2 : (str (beBytes 4 T ++ t)).size = 4 + T := by rw [str_size, List.length_append, beBytes_len, hT]
  have h0 : (str (beBytes 4 T)).size = 4 := by rw [str_size, beBytes_len]
  obtain ⟨Z, hZ⟩ : ∃ Z, Z = 64 * a - (4 + T) := ⟨_, rfl⟩
  have hw1 : IntKind.i64.wrap (64 * (a : Int)) = 64 * (a : Int) := IntWalk.i64_in _ (by omega)
  have hw2 : 64 * (a : Int) - (4 + (T : Int)) = (Z : Int) := by omega
  have h3 : str (beBytes 4 T ++ t) ++ str (List.replicate Z 0) = str (jArea a t) := by rw [str_append]; unfold jArea; rw [← hT, ← hZ]
  have h4 : (str (List.replicate Z (0 : UInt8))).size = Z := by rw [str_size]; simp
  have hZl : Z ≤ 3000000 := by omega
  have HZ := Lib.hid hZ
  have H3 := Lib.hid h3
  have HT := Lib.hid hT
  clear hT hZ h3
  go_enter Try.func59, Try.ntmps59
  go_wp2_with fail
  refine HC.out.mono ?_
  rintro r w1 ⟨rfl, hm⟩
  have HM := Lib.hid hm
  clear hm
  go_wp2_with fail
  refine (noughts_any Z _ (by omega)).mono ?_
  rintro r w2 ⟨rfl, hm2⟩
  have HM2 := Lib.hid (HM.out.trans hm2)
  clear hm2 hw2
  go_wp2_with fail
  go_ret
  refine ⟨?_, HM2.out⟩
  show Ending.returned (.string (str (beBytes 4 T ++ t) ++ str (List.replicate Z 0))) = _
  rw [H3.out]

set_option maxHeartbeats 1600000 in
set_option maxRecDepth 100000 in
theorem rhead_any (kv : Int) (n x : Nat) (w : World) (hkv : kv = n) (hn : n ≤ 1) (hx : x < 4294967296) :
    Calls Try.prog 62 #[.int .i64 kv, .int .u32 (x : Int)] w fun r w' => r = .returned (.string (str (jMark n x))) ∧ Mod Nil w w' := by
  subst hkv
  obtain ⟨Z, hZ⟩ : ∃ Z, Z = List.replicate 48 (0 : UInt8) := ⟨_, rfl⟩
  have HN := Lib.hid (fun w => noughts_any 48 w (by omega))
  rw [← hZ] at HN
  have hZl : Z.length = 48 := by rw [hZ]; rfl
  obtain ⟨P, hP⟩ : ∃ P, P = beBytes 4 1297043028 := ⟨_, rfl⟩
  obtain ⟨Q, hQ⟩ : ∃ Q, Q = beBytes 4 n := ⟨_, rfl⟩
  obtain ⟨X, hX⟩ : ∃ X, X = sumOctets x := ⟨_, rfl⟩
  obtain ⟨A, hA⟩ : ∃ A, A = P ++ Q := ⟨_, rfl⟩
  obtain ⟨C, hC⟩ : ∃ C, C = A ++ X := ⟨_, rfl⟩
  obtain ⟨D, hD⟩ : ∃ D, D = C ++ Z := ⟨_, rfl⟩
  have lP : P.length = 4 := by rw [hP, beBytes_len]
  have lQ : Q.length = 4 := by rw [hQ, beBytes_len]
  have lX : X.length = 4 := by rw [hX, sumOctets_len]
  have lA : A.length = 8 := by rw [hA, List.length_append, lP, lQ]
  have lC : C.length = 12 := by rw [hC, List.length_append, lA, lX]
  have lD : D.length = 60 := by rw [hD, List.length_append, lC, hZl]
  have HJ := Lib.hid (show jMark n x = sealed D by rw [hD, hC, hA, hP, hQ, hX, hZ]; rfl)
  have HC := Lib.hid (fun w => refNum_any ((1297043028 : Nat) : Int) w)
  have HC2 := Lib.hid (fun w => refNum_any (n : Int) w)
  rw [encNum_be 1297043028 (by omega), ← hP] at HC
  rw [encNum_be n (by omega), ← hQ] at HC2
  have h1 : str P ++ str Q = str A := by rw [str_append, hA]
  have h2 : str A ++ str X = str C := by rw [str_append, hC]
  have h3 : str C ++ str Z = str D := by rw [str_append, hD]
  have z0 : (str P).size = 4 := by rw [str_size, lP]
  have z1 : (str Q).size = 4 := by rw [str_size, lQ]
  have z2 : (str A).size = 8 := by rw [str_size, lA]
  have z3 : (str X).size = 4 := by rw [str_size, lX]
  have z4 : (str C).size = 12 := by rw [str_size, lC]
  have z5 : (str Z).size = 48 := by rw [str_size, hZl]
  have z6 : (str D).size = 60 := by rw [str_size, lD]
  have HXE := Lib.hid (show sumOctets x = X from hX.symm)
  have HXL := Lib.hid lX
  have HSE := Lib.hid (fun w => refSeal_any (str D) w (by rw [z6]; decide))
  rw [show (str D).data.toList = D from str_list D] at HSE
  clear hP hQ hX hA hC hD hZ lP lQ lX lA lC lD hZl
  have HX := Lib.hid hx
  go_enter Try.func62, Try.ntmps62
  go_wp2_with fail
  refine (HC.out _).mono ?_
  rintro r w1 ⟨rfl, hm⟩
  have HM := Lib.hid hm
  clear hm
  go_wp2_with fail
  refine (HC2.out _).mono ?_
  rintro r w2 ⟨rfl, hm2⟩
  have HM2 := Lib.hid (HM.out.trans hm2)
  have hrd := Rd.cells w2 #[Value.int IntKind.u8 ((x : Int) % 256), Value.int IntKind.u8 ((x : Int) / 256 % 256), Value.int IntKind.u8 ((x : Int) / 65536 % 256), Value.int IntKind.u8 ((x : Int) / 16777216)] 5 (0, 0) rfl
  rw [← sumOctets_cells x hx, HXE.out] at hrd
  have kb := conv_bytes hrd (n := 4) HXL.out 4
  clear hm2 hrd
  go_wp2_with fail
  refine (HN.out _).mono ?_
  rintro r w3 ⟨rfl, hm3⟩
  have HM3 := Lib.hid ((HM2.out.alloc _).trans hm3)
  clear hm3 kb
  go_wp2_with fail
  refine (HSE.out _).mono ?_
  rintro r w4 ⟨rfl, hm4⟩
  have HM4 := Lib.hid (HM3.out.trans hm4)
  clear hm4
  go_wp2_with fail
  go_ret
  rw [HJ.out]
  exact ⟨rfl, HM4.out⟩

end Go.Proofs.Ytjmehamkpmimkaa

namespace Go.Proofs.Ytjmehamkpmimkaa
open Go.RowKit

theorem run_one (f : DStep) (s : DSt) : jRun [f] s = f s := by
  rw [jRun]
  by_cases h : (f s).2 = 0
  · rw [if_pos h, jRun, ← h]
  · rw [if_neg h]
theorem run_pair (f q : DStep) (s : DSt) : jRun [f, q] s = if (f s).2 = 0 then q (f s).1 else f s := by
  rw [jRun, run_one]

set_option maxHeartbeats 3200000 in
set_option maxRecDepth 100000 in
theorem rlay_any (B g : Nat) (F : Nat → Prop) (s : DSt) (m k : Nat) (kv : Int) (b : List UInt8) (w : World) (h : RdkAt B w g F s) (hB : B ≤ w.heap.size) (hkv : kv = k) (hb : b.length = 64 * m) (hm : m ≤ 32768) (hk : k ≤ 70000) (hbig : s.ws.length ≤ 800000) (hl : s.left ≤ 9223372036854775807) :
    Calls Try.prog 92 #[.pointer (some ⟨g, 0, none⟩), .int .i64 kv, .string (str b)] w (RdkPost B w g F (jLay k b s).1 (.returned (.int .i64 (jLay k b s).2))) := by
  rw [jLay_of hb]
  subst hkv
  have HD := Lib.hid h
  have HB := Lib.hid hb
  have hsb := str_size b
  rw [hb] at hsb
  clear h hb
  go_enter Try.func92, Try.ntmps92
  go_wp2_with fail
  go_loopw [7] (fun iv wr => ∃ (j : Nat) (sk : DSt), j ≤ m ∧ iv = .int .i64 ((64 * j : Nat) : Int) ∧ RSince B w g F sk wr ∧ jLayN m k b s = jLayN (m - j) (k + j) (b.drop (64 * j)) sk ∧ Grows j s sk) (fun v _ => 64 * m - (intOf v).toNat)
  case atStart => exact ⟨0, s, Nat.zero_le _, rfl, RSince.refl HD.out, rfl, Grows.refl s⟩
  case round =>
    obtain ⟨j, sk, hj, rfl, hsi, hjl, hgr⟩ := hrel
    have HSI := Lib.hid hsi
    have HJL := Lib.hid hjl
    have HGR := Lib.hid hgr
    clear hsi hjl hgr
    by_cases hlt : j < m
    · obtain ⟨r, hr⟩ : ∃ r, m - j = r + 1 := ⟨m - j - 1, by omega⟩
      obtain ⟨F1, hd1, hm1, hF1⟩ := HSI.out
      obtain ⟨I, hI⟩ : ∃ I, I = 64 * j := ⟨_, rfl⟩
      rw [← hI]
      have ht : Int.tdiv (I : Int) 64 = (j : Int) := by rw [Int.tdiv_eq_ediv_of_nonneg (by omega)]; omega
      have hlt2 : I < 64 * m := by omega
      have hlt3 : I + 64 ≤ 64 * m := by omega
      have HI := Lib.hid hI
      have hbig2 := HGR.out.2.1
      have hleft2 := HGR.out.2.2
      obtain ⟨ch, hch⟩ : ∃ ch, ch = (b.drop I).take 64 := ⟨_, rfl⟩
      have hchl : ch.length = 64 := by rw [hch, List.length_take, List.length_drop, HB.out]; omega
      have hx : (str b).extract I (I + 64) = str ch := by rw [str_cut, hch, show I + 64 - I = 64 by omega]
      clear hI
      have HW := Lib.hid (fun w' (hw' : Mod Nil wr w') => rdkWrite_any B g F1 sk ((k + j : Nat) : Int) ch w' (hd1.keep0 hw') (Nat.le_trans hB (Nat.le_trans hm1.size hw'.size)) (by omega) (by omega) (by omega))
      rw [Int.natCast_add] at HW
      have HM1 := Lib.hid hm1
      have HF1 := Lib.hid hF1
      have HCH := Lib.hid hch
      have hjn : jLayN (r + 1) (k + j) (b.drop (64 * j)) sk = if (sk.write ((k : Int) + (j : Int)) ch).2 = 0 then jLayN r (k + j + 1) ((b.drop (64 * j)).drop 64) (sk.write ((k : Int) + (j : Int)) ch).1 else sk.write ((k : Int) + (j : Int)) ch := by rw [jLayN, ← HI.out, ← HCH.out, Int.natCast_add]
      rw [← hr, ← HJL.out] at hjn
      have HGW := Lib.hid (HGR.out.trans (write_grows sk ((k : Int) + (j : Int)) ch))
      have HJN0 := Lib.hid hjn
      clear hd1 hm1 hF1 hch hjn
      go_wp2_with fail
      refine (HW.out _ (Mod.refl _ _)).mono ?_
      rintro r6 w6 ⟨rfl, F6, hd6, hm6, hF6⟩
      have HS6 := Lib.hid (rsince_step HM1.out HF1.out hd6 hm6 hF6)
      clear hd6 hm6 hF6
      by_cases he : (sk.write ((k : Int) + (j : Int)) ch).2 = 0
      · have hjn := HJN0.out
        rw [if_pos he] at hjn
        have HJN := Lib.hid hjn
        rw [he]
        clear hjn he
        go_wp2_with fail
        go_roundw
        case rel => exact ⟨j + 1, _, by omega, by have := HI.out; rw [this]; go_num, HS6.out, by rw [HJN.out, List.drop_drop, show m - (j + 1) = r by omega]; rfl, HGW.out⟩
        case measure => simp [intOf] <;> omega
      · have hjn := HJN0.out
        rw [if_neg he] at hjn
        have HJN := Lib.hid hjn
        have he0 : ((sk.write ((k : Int) + (j : Int)) ch).2 != 0) = true := by simp [he]
        have HEN := Lib.hid he
        clear hjn he
        go_wp2_with fail
        go_ret
        rw [HJN.out]
        exact HS6.out.post _
    · have HFI := Lib.hid (show jLayN m k b s = (sk, 0) by
        have := HJL.out
        rw [show m - j = 0 by omega] at this
        exact this)
      go_wp2_with fail
      go_ret
      rw [HFI.out]
      exact HSI.out.post _

set_option maxHeartbeats 1600000 in
set_option maxRecDepth 100000 in
theorem rboth_any (B g : Nat) (F : Nat → Prop) (s : DSt) (m k : Nat) (kv : Int) (b : List UInt8) (w : World) (h : RdkAt B w g F s) (hB : B ≤ w.heap.size) (hz : Szd s) (hkv : kv = k) (hb : b.length = 64 * m) (hm : m ≤ 32768) (hk : k ≤ 70000) (hbig : s.ws.length ≤ 800000) (hl : s.left ≤ 9223372036854775807) :
    Calls Try.prog 61 #[.pointer (some ⟨g, 0, none⟩), .int .i64 kv, .string (str b)] w (RdkPost B w g F (jRun [jLay k b, DSt.sync] s).1 (.returned (.int .i64 (jRun [jLay k b, DSt.sync] s).2))) := by
  subst hkv
  have HC := Lib.hid (rlay_any B g F s m k k b w h hB rfl hb hm hk hbig hl)
  obtain ⟨g1, g2⟩ := lay_g k b s hz.2.2.2
  rw [hb, Nat.mul_div_cancel_left _ (by omega)] at g2
  have hws := g2.2.1
  have hlf := g2.2.2
  clear h
  by_cases he : (jLay k b s).2 = 0
  · have HR := Lib.hid (show jRun [jLay k b, DSt.sync] s = DSt.sync (jLay k b s).1 by rw [run_pair, if_pos he])
    rw [he] at HC
    obtain ⟨s1, hs1⟩ : ∃ s1, s1 = (jLay k b s).1 := ⟨_, rfl⟩
    rw [← hs1] at HC HR hws hlf
    clear he hs1 g1 g2
    go_enter Try.func61, Try.ntmps61
    go_wp2_with fail
    refine HC.out.mono ?_
    rintro r w1 ⟨rfl, F1, hd1, hm1, hF1⟩
    have HD1 := Lib.hid hd1
    have HM1 := Lib.hid hm1
    have HF1 := Lib.hid hF1
    clear hd1 hm1 hF1
    go_wp2_with fail
    refine (show Calls Try.prog 65 #[.pointer (some ⟨g, 0, none⟩)] w1 (RdkPost B w1 g F1 (DSt.sync s1).1 (.returned (.int .i64 (DSt.sync s1).2))) from rdkSync_any B g F1 s1 w1 HD1.out (Nat.le_trans hB HM1.out.size) (by omega) (by omega)).mono ?_
    rintro r w2 ⟨rfl, F2, hd2, hm2, hF2⟩
    have HS := Lib.hid (rsince_step HM1.out HF1.out hd2 hm2 hF2)
    clear hd2 hm2 hF2
    go_wp2_with fail
    go_ret
    rw [HR.out]
    exact HS.out.post _
  · have HR := Lib.hid (show jRun [jLay k b, DSt.sync] s = jLay k b s by rw [run_pair, if_neg he])
    have he0 : ((jLay k b s).2 != 0) = true := by simp [he]
    have HEN := Lib.hid he
    clear he g1 g2
    go_enter Try.func61, Try.ntmps61
    go_wp2_with fail
    refine HC.out.mono ?_
    rintro r w1 ⟨rfl, F1, hd1, hm1, hF1⟩
    have HD1 := Lib.hid hd1
    have HM1 := Lib.hid hm1
    have HF1 := Lib.hid hF1
    clear hd1 hm1 hF1
    go_wp2_with fail
    go_ret
    rw [HR.out]
    exact ⟨rfl, F1, HD1.out, HM1.out, HF1.out⟩

/-- What both leaves of a disk's size and bounds. -/
theorem both_keeps {k m : Nat} {b : List UInt8} {s : DSt} (hz : Szd s) (hb : b.length = 64 * m) : Szd (jRun [jLay k b, DSt.sync] s).1 ∧ (jRun [jLay k b, DSt.sync] s).1.secs = s.secs ∧ (jRun [jLay k b, DSt.sync] s).1.ws.length ≤ s.ws.length + m ∧ (jRun [jLay k b, DSt.sync] s).1.left ≤ s.left := by
  obtain ⟨g1, g2⟩ := both_g k b run_nil_g s hz.2.2.2
  rw [hb, Nat.mul_div_cancel_left _ (by omega)] at g2
  exact ⟨hz.to g2.1 g1, by unfold DSt.secs; rw [g2.1], g2.2.1, g2.2.2⟩
theorem run_two (k1 : Nat) (b1 : List UInt8) (rest : List DStep) (s : DSt) : jRun (jLay k1 b1 :: DSt.sync :: rest) s = if (jRun [jLay k1 b1, DSt.sync] s).2 = 0 then jRun rest (jRun [jLay k1 b1, DSt.sync] s).1 else jRun [jLay k1 b1, DSt.sync] s := jRun_append [jLay k1 b1, DSt.sync] rest s

theorem RdkPost.then_ {B g : Nat} {F F1 : Nat → Prop} {s : DSt} {w w1 w2 : World} {e r : Ending} (hm : Mod F w w1) (hF : ∀ k, F1 k → F k ∨ w.heap.size ≤ k) (h : RdkPost B w1 g F1 s e r w2) : RdkPost B w g F s e r w2 := by
  obtain ⟨h0, F2, h1, h2, h3⟩ := h
  obtain ⟨F3, q1, q2, q3⟩ := rsince_step hm hF h1 h2 h3
  exact ⟨h0, F3, q1, q2, q3⟩
theorem RdkPost.from_ {B g : Nat} {F : Nat → Prop} {s : DSt} {w w1 w2 : World} {e r : Ending} (h : RdkPost B w1 g F s e r w2) (hm : Mod Nil w w1) : RdkPost B w g F s e r w2 := h.then_ hm.any (fun _ h => .inl h)

set_option maxHeartbeats 1600000 in
set_option maxRecDepth 100000 in
theorem rhome_any (B g : Nat) (F : Nat → Prop) (s : DSt) (a : Nat) (b : List UInt8) (w : World) (h : RdkAt B w g F s) (hB : B ≤ w.heap.size) (hz : Szd s) (ha : a = jA s.secs) (hb : b.length = 64 * a) (hbig : s.ws.length ≤ 700000) (hl : s.left ≤ 9223372036854775807) :
    Calls Try.prog 64 #[.pointer (some ⟨g, 0, none⟩), .string (str b)] w (RdkPost B w g F (jRun [jLay (1 + a) b, DSt.sync, jLay 0 (jMark 0 (crcSum b)), DSt.sync] s).1 (.returned (.int .i64 (jRun [jLay (1 + a) b, DSt.sync, jLay 0 (jMark 0 (crcSum b)), DSt.sync] s).2))) := by
  have ha9 : a ≤ 32767 := by rw [ha]; have := hz.2.1; unfold jA; omega
  have HA := Lib.hid (rarea_any B g F s w h hz)
  rw [← ha] at HA
  have HC := Lib.hid (rboth_any B g F s a (1 + a) (1 + (a : Int)) b w h hB hz (by omega) hb (by omega) (by omega) (by omega) hl)
  have hx := crcSum_lt b
  obtain ⟨x, hxe⟩ : ∃ x, x = crcSum b := ⟨_, rfl⟩
  have hx : x < 4294967296 := by rw [hxe]; simpa using hx
  have HSUM := Lib.hid (fun w => refSum_any (str b) w (by rw [str_size]; simp only [maxLen]; omega))
  rw [str_list, ← hxe] at HSUM
  have HRT := Lib.hid (run_two (1 + a) b [jLay 0 (jMark 0 (crcSum b)), DSt.sync] s)
  rw [← hxe] at HRT ⊢
  obtain ⟨k1, k2, k3, k4⟩ := both_keeps (k := 1 + a) hz hb
  clear h hxe ha hb
  by_cases he : (jRun [jLay (1 + a) b, DSt.sync] s).2 = 0
  · rw [if_pos he] at HRT
    rw [he] at HC
    obtain ⟨s1, hs1⟩ : ∃ s1, s1 = (jRun [jLay (1 + a) b, DSt.sync] s).1 := ⟨_, rfl⟩
    rw [← hs1] at HC HRT k1 k3 k4
    have HZ1 := Lib.hid k1
    clear he hs1 k1 k2
    go_enter Try.func64, Try.ntmps64
    go_wp2_with fail
    refine HA.out.mono ?_
    rintro r w1 ⟨rfl, rfl⟩
    go_wp2_with fail
    refine HC.out.mono ?_
    rintro r w1 ⟨rfl, F1, hd1, hm1, hF1⟩
    have HD1 := Lib.hid hd1
    have HM1 := Lib.hid hm1
    have HF1 := Lib.hid hF1
    clear hd1 hm1 hF1
    go_wp2_with fail
    refine (HSUM.out _).mono ?_
    rintro r w2 ⟨rfl, rfl⟩
    go_wp2_with fail
    refine (rhead_any 0 0 x _ rfl (by omega) hx).mono ?_
    rintro r w2 ⟨rfl, hm2⟩
    have HM2 := Lib.hid hm2
    clear hm2
    go_wp2_with fail
    refine (rboth_any B g F1 s1 1 0 0 (jMark 0 x) _ (HD1.out.keep0 HM2.out) (Nat.le_trans hB (Nat.le_trans HM1.out.size HM2.out.size)) HZ1.out rfl (jMark_len 0 x) (by omega) (by omega) (by omega) (by omega)).mono ?_
    intro r w3 h3
    have HP := Lib.hid ((h3.from_ HM2.out).then_ HM1.out HF1.out)
    obtain ⟨rfl, _⟩ := h3
    go_wp2_with fail
    go_ret
    rw [HRT.out]
    exact HP.out
  · rw [if_neg he] at HRT
    have he0 : ((jRun [jLay (1 + a) b, DSt.sync] s).2 != 0) = true := by simp [he]
    have HEN := Lib.hid he
    clear he k1 k2 k3 k4
    go_enter Try.func64, Try.ntmps64
    go_wp2_with fail
    refine HA.out.mono ?_
    rintro r w1 ⟨rfl, rfl⟩
    go_wp2_with fail
    refine HC.out.mono ?_
    rintro r w1 ⟨rfl, F1, hd1, hm1, hF1⟩
    have HD1 := Lib.hid hd1
    have HM1 := Lib.hid hm1
    have HF1 := Lib.hid hF1
    clear hd1 hm1 hF1
    go_wp2_with fail
    go_ret
    rw [HRT.out]
    exact ⟨rfl, F1, HD1.out, HM1.out, HF1.out⟩

end Go.Proofs.Ytjmehamkpmimkaa

namespace Go.Proofs.Ytjmehamkpmimkaa
open Go.RowKit

theorem jfits_room {s : DSt} {t : List UInt8} (h : jFits s t = 0) : 4 + t.length ≤ 64 * jA s.secs := by
  unfold jFits at h
  split at h
  · exact absurd h (by decide)
  split at h
  · exact absurd h (by decide)
  rename_i h1 h2
  unfold jRoom at h1 h2
  unfold jA
  by_cases h3 : (s.secs : Int) < 1 ∨ 65536 < (s.secs : Int)
  · rw [if_pos h3] at h1; omega
  by_cases h4 : (s.secs : Int) < 4
  · rw [if_neg h3, if_pos h4] at h1; omega
  rw [if_neg h3, if_neg h4] at h2
  omega
theorem jA_le {n : Nat} (h : n ≤ 65536) : jA n ≤ 32767 := by unfold jA; omega

theorem rhead_any' (kv xv : Int) (n x : Nat) (w : World) (hkv : kv = n) (hxv : xv = x) (hn : n ≤ 1) (hx : x < 4294967296) :
    Calls Try.prog 62 #[.int .i64 kv, .int .u32 xv] w fun r w' => r = .returned (.string (str (jMark n x))) ∧ Mod Nil w w' := by
  subst hxv
  exact rhead_any kv n x w hkv hn hx

theorem pair_fst {α β : Type} {p : α × β} {a : α} {b : β} (h : p = (a, b)) : p.1 = a := by rw [h]

set_option maxHeartbeats 1600000 in
set_option maxRecDepth 100000 in
theorem rformat_any (B g : Nat) (F : Nat → Prop) (s : DSt) (t : List UInt8) (w : World) (h : RdkAt B w g F s) (hB : B ≤ w.heap.size) (hz : Szd s) (hbig : s.ws.length ≤ 600000) (hl : s.left ≤ 9223372036854775807) :
    Calls Try.prog 25 #[.pointer (some ⟨g, 0, none⟩), .string (str t)] w (RdkPost B w g F (jFormat t s).1 (.returned (.int .i64 (jFormat t s).2))) := by
  have HFT := Lib.hid (rfits_any B g F s t w h hz)
  by_cases he : jFits s t = 0
  · have HA := Lib.hid (fun w' (hm : Mod Nil w w') => rarea_any B g F s w' (h.keep0 hm) hz)
    obtain ⟨a, ha⟩ : ∃ a, a = jA s.secs := ⟨_, rfl⟩
    have hrm := jfits_room he
    rw [← ha] at HA hrm
    have ha9 : a ≤ 32767 := by rw [ha]; exact jA_le hz.2.1
    have HFO := Lib.hid (fun w => rform_any t a w hrm ha9)
    have hbl := jArea_len hrm
    obtain ⟨b, hb⟩ : ∃ b, b = jArea a t := ⟨_, rfl⟩
    have HRT := Lib.hid (show jFormat t s = if (jRun [jLay (1 + a) b, DSt.sync] s).2 = 0 then jRun [jLay 0 (jMark 0 0), DSt.sync] (jRun [jLay (1 + a) b, DSt.sync] s).1 else jRun [jLay (1 + a) b, DSt.sync] s by
      unfold jFormat
      rw [if_pos he, show s.home = 1 + a by unfold DSt.home; rw [ha], ← ha, ← hb, run_two])
    rw [← hb] at HFO hbl
    have HC := Lib.hid (fun w' (hm : Mod Nil w w') => rboth_any B g F s a (1 + a) (1 + (a : Int)) b w' (h.keep0 hm) (Nat.le_trans hB hm.size) hz (by omega) hbl (by omega) (by omega) (by omega) hl)
    obtain ⟨k1, k2, k3, k4⟩ := both_keeps (k := 1 + a) hz hbl
    rw [he] at HFT
    clear h he ha hrm hbl hb
    by_cases he : (jRun [jLay (1 + a) b, DSt.sync] s).2 = 0
    · rw [if_pos he] at HRT
      rw [he] at HC
      obtain ⟨s1, hs1⟩ : ∃ s1, s1 = (jRun [jLay (1 + a) b, DSt.sync] s).1 := ⟨_, rfl⟩
      rw [← hs1] at HC HRT k1 k3 k4
      have HZ1 := Lib.hid k1
      clear he hs1 k1 k2
      go_enter Try.func25, Try.ntmps25
      go_wp2_with fail
      refine HFT.out.mono ?_
      rintro r w1 ⟨rfl, rfl⟩
      go_wp2_with fail
      refine (HA.out _ (Mod.refl _ _)).mono ?_
      rintro r w1 ⟨rfl, rfl⟩
      go_wp2_with fail
      refine (HA.out _ (Mod.refl _ _)).mono ?_
      rintro r w1 ⟨rfl, rfl⟩
      go_wp2_with fail
      refine (HFO.out _).mono ?_
      rintro r w1 ⟨rfl, hm0⟩
      have HM0 := Lib.hid hm0
      clear hm0
      go_wp2_with fail
      refine (HC.out _ HM0.out).mono ?_
      intro r w2 h2
      obtain ⟨rfl, F1, hd1, hm1, hF1⟩ := h2.from_ HM0.out
      have HD1 := Lib.hid hd1
      have HM1 := Lib.hid hm1
      have HF1 := Lib.hid hF1
      clear hd1 hm1 hF1 h2
      go_wp2_with fail
      refine (rhead_any' 0 0 0 0 _ rfl rfl (by omega) (by omega)).mono ?_
      rintro r w3 ⟨rfl, hm2⟩
      have HM2 := Lib.hid hm2
      clear hm2
      go_wp2_with fail
      refine (rboth_any B g F1 s1 1 0 0 (jMark 0 0) _ (HD1.out.keep0 HM2.out) (Nat.le_trans hB (Nat.le_trans HM1.out.size HM2.out.size)) HZ1.out rfl (jMark_len 0 0) (by omega) (by omega) (by omega) (by omega)).mono ?_
      intro r w4 h4
      have HP := Lib.hid ((h4.from_ HM2.out).then_ HM1.out HF1.out)
      obtain ⟨rfl, _⟩ := h4
      go_wp2_with fail
      go_ret
      rw [HRT.out]
      exact HP.out
    · rw [if_neg he] at HRT
      have he0 : ((jRun [jLay (1 + a) b, DSt.sync] s).2 != 0) = true := by simp [he]
      have HEN := Lib.hid he
      clear he k1 k2 k3 k4
      go_enter Try.func25, Try.ntmps25
      go_wp2_with fail
      refine HFT.out.mono ?_
      rintro r w1 ⟨rfl, rfl⟩
      go_wp2_with fail
      refine (HA.out _ (Mod.refl _ _)).mono ?_
      rintro r w1 ⟨rfl, rfl⟩
      go_wp2_with fail
      refine (HA.out _ (Mod.refl _ _)).mono ?_
      rintro r w1 ⟨rfl, rfl⟩
      go_wp2_with fail
      refine (HFO.out _).mono ?_
      rintro r w1 ⟨rfl, hm0⟩
      have HM0 := Lib.hid hm0
      clear hm0
      go_wp2_with fail
      refine (HC.out _ HM0.out).mono ?_
      intro r w2 h2
      have HP := Lib.hid (h2.from_ HM0.out)
      obtain ⟨rfl, _⟩ := h2
      go_wp2_with fail
      go_ret
      rw [HRT.out]
      exact HP.out
  · have HRT := Lib.hid (show jFormat t s = (s, jFits s t) by unfold jFormat; rw [if_neg he])
    have he0 : (jFits s t != 0) = true := by simp [he]
    have HEN := Lib.hid he
    have HD := Lib.hid h
    clear he h
    go_enter Try.func25, Try.ntmps25
    go_wp2_with fail
    refine HFT.out.mono ?_
    rintro r w1 ⟨rfl, rfl⟩
    go_wp2_with fail
    go_ret
    rw [HRT.out]
    exact ⟨rfl, F, HD.out, Mod.refl _ _, fun _ h => .inl h⟩

set_option maxHeartbeats 1600000 in
set_option maxRecDepth 100000 in
theorem rput_any (B g : Nat) (F : Nat → Prop) (s : DSt) (t : List UInt8) (w : World) (h : RdkAt B w g F s) (hB : B ≤ w.heap.size) (hz : Szd s) (hbig : s.ws.length ≤ 500000) (hl : s.left ≤ 9223372036854775807) :
    Calls Try.prog 18 #[.pointer (some ⟨g, 0, none⟩), .string (str t)] w (RdkPost B w g F (jPut t s).1 (.returned (.int .i64 (jPut t s).2))) := by
  have HFT := Lib.hid (rfits_any B g F s t w h hz)
  by_cases he : jFits s t = 0
  · have HA := Lib.hid (fun w' (hm : Mod Nil w w') => rarea_any B g F s w' (h.keep0 hm) hz)
    obtain ⟨a, ha⟩ : ∃ a, a = jA s.secs := ⟨_, rfl⟩
    have hrm := jfits_room he
    have HSA := Lib.hid (show jA s.secs = a from ha.symm)
    rw [← ha] at HA hrm
    have ha9 : a ≤ 32767 := by rw [ha]; exact jA_le hz.2.1
    have HFO := Lib.hid (fun w => rform_any t a w hrm ha9)
    have hbl := jArea_len hrm
    obtain ⟨b, hb⟩ : ∃ b, b = jArea a t := ⟨_, rfl⟩
    rw [← hb] at HFO hbl
    have hx := crcSum_lt b
    obtain ⟨x, hxe⟩ : ∃ x, x = crcSum b := ⟨_, rfl⟩
    have hx : x < 4294967296 := by rw [hxe]; simpa using hx
    have HXE := Lib.hid (show crcSum b = x from hxe.symm)
    have HSUM := Lib.hid (fun w => refSum_any (str b) w (by rw [str_size]; simp only [maxLen]; omega))
    rw [str_list, ← hxe] at HSUM
    have HRT := Lib.hid (show jPut t s = if (jRun [jLay 1 b, DSt.sync] s).2 = 0 then (if (jRun [jLay 0 (jMark 1 x), DSt.sync] (jRun [jLay 1 b, DSt.sync] s).1).2 = 0 then jRun [jLay (1 + a) b, DSt.sync, jLay 0 (jMark 0 x), DSt.sync] (jRun [jLay 0 (jMark 1 x), DSt.sync] (jRun [jLay 1 b, DSt.sync] s).1).1 else jRun [jLay 0 (jMark 1 x), DSt.sync] (jRun [jLay 1 b, DSt.sync] s).1) else jRun [jLay 1 b, DSt.sync] s by
      unfold jPut jSteps
      rw [if_pos he, show s.home = 1 + a by unfold DSt.home; rw [ha], ← ha, ← hb, ← hxe]
      rw [run_two 1 b, run_two 0 (jMark 1 x)])
    have HC := Lib.hid (fun w' (hm : Mod Nil w w') => rboth_any B g F s a 1 1 b w' (h.keep0 hm) (Nat.le_trans hB hm.size) hz rfl hbl (by omega) (by omega) (by omega) hl)
    obtain ⟨k1, k2, k3, k4⟩ := both_keeps (k := 1) hz hbl
    have HSEC := Lib.hid k2
    have HBL := Lib.hid hbl
    rw [he] at HFT
    clear h he ha hrm hbl hb hxe k2
    by_cases he : (jRun [jLay 1 b, DSt.sync] s).2 = 0
    · rw [if_pos he] at HRT
      rw [he] at HC
      obtain ⟨s1, hs1⟩ : ∃ s1, s1 = (jRun [jLay 1 b, DSt.sync] s).1 := ⟨_, rfl⟩
      rw [← hs1] at HC HRT HSEC k1 k3 k4
      have HZ1 := Lib.hid k1
      have HE1 := Lib.hid (both_keeps (k := 0) (b := jMark 1 x) (m := 1) k1 (jMark_len 1 x))
      clear he hs1 k1
      have HB2 := Lib.hid (fun F1 w' (hd : RdkAt B w' g F1 s1) (hw : B ≤ w'.heap.size) => rboth_any B g F1 s1 1 0 0 (jMark 1 x) w' hd hw HZ1.out rfl (jMark_len 1 x) (by omega) (by omega) (by omega) (by omega))
      by_cases he : (jRun [jLay 0 (jMark 1 x), DSt.sync] s1).2 = 0
      · rw [if_pos he] at HRT
        rw [he] at HB2
        obtain ⟨k1, k2, k5, k6⟩ := HE1.out
        obtain ⟨s2, hs2⟩ : ∃ s2, s2 = (jRun [jLay 0 (jMark 1 x), DSt.sync] s1).1 := ⟨_, rfl⟩
        rw [← hs2] at HB2 HRT k1 k2 k5 k6
        have HA2 := Lib.hid (show a = jA s2.secs by rw [k2, HSEC.out, HSA.out])
        have HZ2 := Lib.hid k1
        have HOM := Lib.hid (fun F1 w' (hd : RdkAt B w' g F1 s2) (hw : B ≤ w'.heap.size) => rhome_any B g F1 s2 a b w' hd hw HZ2.out HA2.out HBL.out (by omega) (by omega))
        rw [HXE.out] at HOM
        clear he hs2 k1 k2 HE1
        go_enter Try.func18, Try.ntmps18
        go_wp2_with fail
        refine HFT.out.mono ?_
        rintro r w1 ⟨rfl, rfl⟩
        go_wp2_with fail
        refine (HA.out _ (Mod.refl _ _)).mono ?_
        rintro r w1 ⟨rfl, rfl⟩
        go_wp2_with fail
        refine (HFO.out _).mono ?_
        rintro r w1 ⟨rfl, hm0⟩
        have HM0 := Lib.hid hm0
        clear hm0
        go_wp2_with fail
        refine (HC.out _ HM0.out).mono ?_
        intro r w2 h2
        obtain ⟨rfl, F1, hd1, hm1, hF1⟩ := h2.from_ HM0.out
        have HD1 := Lib.hid hd1
        have HM1 := Lib.hid hm1
        have HF1 := Lib.hid hF1
        clear hd1 hm1 hF1 h2
        go_wp2_with fail
        refine (HSUM.out _).mono ?_
        rintro r w3 ⟨rfl, rfl⟩
        go_wp2_with fail
        refine (rhead_any 1 1 x _ rfl (by omega) hx).mono ?_
        rintro r w3 ⟨rfl, hm2⟩
        have HM2 := Lib.hid hm2
        clear hm2
        go_wp2_with fail
        refine (HB2.out F1 _ (HD1.out.keep0 HM2.out) (Nat.le_trans hB (Nat.le_trans HM1.out.size HM2.out.size))).mono ?_
        intro r w4 h4
        obtain ⟨rfl, F2, hd4, hm4, hF4⟩ := (h4.from_ HM2.out).then_ HM1.out HF1.out
        have HD4 := Lib.hid hd4
        have HM4 := Lib.hid hm4
        have HF4 := Lib.hid hF4
        clear hd4 hm4 hF4 h4
        go_wp2_with fail
        refine (HOM.out F2 _ HD4.out (Nat.le_trans hB HM4.out.size)).mono ?_
        intro r w5 h5
        have HP := Lib.hid (h5.then_ HM4.out HF4.out)
        obtain ⟨rfl, _⟩ := h5
        go_wp2_with fail
        go_ret
        rw [HRT.out]
        exact HP.out
      · rw [if_neg he] at HRT
        have he0 : ((jRun [jLay 0 (jMark 1 x), DSt.sync] s1).2 != 0) = true := by simp [he]
        have HEN := Lib.hid he
        clear he HE1
        go_enter Try.func18, Try.ntmps18
        go_wp2_with fail
        refine HFT.out.mono ?_
        rintro r w1 ⟨rfl, rfl⟩
        go_wp2_with fail
        refine (HA.out _ (Mod.refl _ _)).mono ?_
        rintro r w1 ⟨rfl, rfl⟩
        go_wp2_with fail
        refine (HFO.out _).mono ?_
        rintro r w1 ⟨rfl, hm0⟩
        have HM0 := Lib.hid hm0
        clear hm0
        go_wp2_with fail
        refine (HC.out _ HM0.out).mono ?_
        intro r w2 h2
        obtain ⟨rfl, F1, hd1, hm1, hF1⟩ := h2.from_ HM0.out
        have HD1 := Lib.hid hd1
        have HM1 := Lib.hid hm1
        have HF1 := Lib.hid hF1
        clear hd1 hm1 hF1 h2
        go_wp2_with fail
        refine (HSUM.out _).mono ?_
        rintro r w3 ⟨rfl, rfl⟩
        go_wp2_with fail
        refine (rhead_any 1 1 x _ rfl (by omega) hx).mono ?_
        rintro r w3 ⟨rfl, hm2⟩
        have HM2 := Lib.hid hm2
        clear hm2
        go_wp2_with fail
        refine (HB2.out F1 _ (HD1.out.keep0 HM2.out) (Nat.le_trans hB (Nat.le_trans HM1.out.size HM2.out.size))).mono ?_
        intro r w4 h4
        have HP := Lib.hid ((h4.from_ HM2.out).then_ HM1.out HF1.out)
        obtain ⟨rfl, _⟩ := h4
        go_wp2_with fail
        go_ret
        rw [HRT.out]
        exact HP.out
    · rw [if_neg he] at HRT
      have he0 : ((jRun [jLay 1 b, DSt.sync] s).2 != 0) = true := by simp [he]
      have HEN := Lib.hid he
      clear he k1 k3 k4
      go_enter Try.func18, Try.ntmps18
      go_wp2_with fail
      refine HFT.out.mono ?_
      rintro r w1 ⟨rfl, rfl⟩
      go_wp2_with fail
      refine (HA.out _ (Mod.refl _ _)).mono ?_
      rintro r w1 ⟨rfl, rfl⟩
      go_wp2_with fail
      refine (HFO.out _).mono ?_
      rintro r w1 ⟨rfl, hm0⟩
      have HM0 := Lib.hid hm0
      clear hm0
      go_wp2_with fail
      refine (HC.out _ HM0.out).mono ?_
      intro r w2 h2
      have HP := Lib.hid (h2.from_ HM0.out)
      obtain ⟨rfl, _⟩ := h2
      go_wp2_with fail
      go_ret
      rw [HRT.out]
      exact HP.out
  · have HRT := Lib.hid (show jPut t s = (s, jFits s t) by unfold jPut; rw [if_neg he])
    have he0 : (jFits s t != 0) = true := by simp [he]
    have HEN := Lib.hid he
    have HD := Lib.hid h
    clear he h
    go_enter Try.func18, Try.ntmps18
    go_wp2_with fail
    refine HFT.out.mono ?_
    rintro r w1 ⟨rfl, rfl⟩
    go_wp2_with fail
    go_ret
    rw [HRT.out]
    exact ⟨rfl, F, HD.out, Mod.refl _ _, fun _ h => .inl h⟩

end Go.Proofs.Ytjmehamkpmimkaa
