/- Contracts of disk.Disk: Of, New, Sync, Write. -/
import Derived.Test.YtjmehamkpmimkaaDskX
namespace Go.Proofs.Ytjmehamkpmimkaa
open Go.RowKit

section
variable {P : Program} (w : World)
theorem step_append_k {ops : Array Oper} {o : Oper} {a : Act} {K : Act → World → Prop} {Q : Exit → Act → World → Prop} {E : Prop} (hgd : o.guard = none) (s x : Operand) (t : TypeId)
    (ho : o.op = .call { callee := .builtin .append, args := #[s, x], argTypes := #[t, t] })
    (base : Nat) (e : TypeId) (i : TypeInfo) (z : Value) (size bytes : Nat) (ht : P.underlying t = some (.slice e)) (hi : P.info? e = some i) (hz : i.zero = some z)
    (hsize : i.size = size) (hby : i.bytes = bytes) (hzs : z.cells.size = size) (hsz : 0 < size)
    (v : Value) (n : Nat) (xs : List Value) (hs : a.eval s = v) (hown : w.ownsRow base e size v n xs)
    (ad : Addr) (m c : Nat) (news : List Value) (hx : a.eval x = .slice (some ad) m c) (hl : news.length = m * size) (hr : ∀ j u, news[j]? = some u → w.cell? (ad.add j) = some u) (h1 : ∀ u ∈ news, u.oneCell' = true)
    (hbytes : (n + m) * bytes ≤ 140737488355328) (h63 : n + m ≤ maxLen) (hbase : base ≤ w.heap.size)
    (h : ∀ A' c' w', w'.ownsRow base e size (.slice A' (n + m) c') (n + m) (xs ++ news) → Mod (fun k => v.ownBlock = some k) w w' → (∀ k, (Value.slice A' (n + m) c').ownBlock = some k → v.ownBlock = some k ∨ w.heap.size ≤ k) → K (a.put o.dst (.slice A' (n + m) c')) w') :
    if Region.wanted o (yielded ops a.tmps) = true then Oper.wp P o a w K Q else E := by
  have hw : Region.wanted o (yielded ops a.tmps) = true := by simp [Region.wanted, hgd]
  rw [if_pos hw]
  obtain ⟨v', w', hrun, h2, h3, _, h5⟩ := run_append_own_at (P := P) w base t o.type e i z size bytes ht hi hz hsize hby hzs hsz v n xs hown ad m c news hl hr h1 h63 hbytes hbase
  obtain ⟨A', c', rfl, _, _⟩ := own_slice h2
  unfold Oper.wp execOp
  simp only [ho, resolve, invoke, builtin, Sem.run_bind, Sem.run_pure, Result.andThen_ok, List.map_toArray, List.map_cons, List.map_nil, hs, hx, hrun]
  refine h A' c' w' h2 (Mod.of_grown h3) (fun k hk => ?_)
  rcases h5 with h5 | h5
  · exact .inl (h5 ▸ hk)
  · rw [h5] at hk
    injection hk with hk
    exact .inr (by omega)
end

theorem DskAt.base {F : Nat → Prop} {B B' : Nat} {w : World} {g : Nat} {s : DSt} (h : DskAt B w g F s) (hB : B' ≤ B) : DskAt B' w g F s := by
  obtain ⟨vs, vw, wts, rfl, h1, h2, h3, h4, h5, h6, h7, h8, h9⟩ := h
  exact ⟨vs, vw, wts, rfl, h1, by omega, own_base h3 hB, own_base h4 hB, fun x hx => ⟨own_base (h5 x hx).1 hB, (h5 x hx).2⟩, h6, h7, h8, h9⟩

/-- Is it a disk's number of octets? -/
def dskLen (n : Nat) : Prop := n ≠ 0 ∧ n % 64 = 0 ∧ n ≤ 4194304

theorem dskOf_bad (A : Option Addr) (n c : Nat) (w : World) (h : ¬ dskLen n) (hn : n ≤ maxLen) :
    Calls Try.prog 44 #[.slice A n c] w fun r w' => r = .returned (.tuple #[.pointer none, .int .i64 2]) ∧ w = w' := by
  have hmax : maxLen = 9223372036854775807 := rfl
  by_cases h0 : n = 0
  · subst h0
    clear h
    go_enter Try.func44, Try.ntmps44
    go_wp2_with fail
    go_ret2
    exact ⟨rfl, rfl⟩
  have hn0 : ((n : Int) == 0) = false := by simp; omega
  by_cases h1 : n % 64 = 0
  · have h2 : (n : Int) > 4194304 := by unfold dskLen at h; omega
    have hr : (n : Int).tmod 64 = 0 := by rw [Int.tmod_eq_emod_of_nonneg (by omega)]; omega
    clear h
    go_enter Try.func44, Try.ntmps44
    go_wp2_with fail
    go_ret2
    exact ⟨rfl, rfl⟩
  · have hr : ¬ (n : Int).tmod 64 = 0 := by rw [Int.tmod_eq_emod_of_nonneg (by omega)]; omega
    clear h
    go_enter Try.func44, Try.ntmps44
    go_wp2_with fail
    all_goals
      go_ret2
      exact ⟨rfl, rfl⟩

/-- What a new disk leaves. -/
def DskNew (B : Nat) (w : World) (s : DSt) (r : Ending) (w' : World) : Prop := ∃ g F, r = .returned (.tuple #[.pointer (some ⟨g, 0, none⟩), .int .i64 0]) ∧ DskAt B w' g F s ∧ Mod Nil w w'

set_option maxHeartbeats 1600000 in
set_option maxRecDepth 100000 in
theorem dskOf_ok (A : Option Addr) (n c : Nat) (S : Nat → Prop) (l : List UInt8) (w : World) (h : dskLen n) (hl : l.length = n) (hr : Rd S w A (l.map bv)) :
    Calls Try.prog 44 #[.slice A n c] w (DskNew w.heap.size w ⟨l, [], -1⟩) := by
  obtain ⟨h0, h1, h2⟩ := h
  have HC := Lib.hid (clone_any S A n c l w hl (by omega) hr)
  clear hr
  have hn0 : ((n : Int) == 0) = false := by simp; omega
  have hr : (n : Int).tmod 64 = 0 := by rw [Int.tmod_eq_emod_of_nonneg (by omega)]; omega
  go_enter Try.func44, Try.ntmps44
  go_wp2_with fail
  refine HC.out.mono ?_
  rintro r w1 ⟨v1, rfl, ho1, hm1⟩
  obtain ⟨A1, c1, rfl, _, _⟩ := own_slice ho1
  have HO := Lib.hid ho1
  have HM := Lib.hid hm1
  clear ho1 hm1
  go_wp2_with fail
  go_ret2
  refine ⟨w1.heap.size, _, rfl, ⟨.slice A1 n c1, .slice none 0 0, [], rfl, Blk.new _ _ _, HM.out.size, ?_, World.ownsRow_nil _ _ _ _, fun x hx => (by cases hx), rfl, ?_, ?_, ?_⟩, HM.out.alloc _⟩
  · subst hl
    exact own_keep HO.out ((Mod.refl Nil w1).alloc _) (fun _ _ => id)
  · show 0 < l.length; omega
  · show l.length ≤ _; omega
  · show l.length % 64 = 0; omega

theorem dskNew_bad (n : Int) (w : World) (h : n < 1 ∨ 65536 < n) :
    Calls Try.prog 14 #[.int .i64 n] w fun r w' => r = .returned (.tuple #[.pointer none, .int .i64 2]) ∧ w = w' := by
  go_enter Try.func14, Try.ntmps14
  go_wp2_with fail
  all_goals
    go_ret2
    exact ⟨rfl, rfl⟩

theorem madeCells_u8 (n : Nat) : (madeCells (Value.int .u8 0).cells (n * 1)).toList = (List.replicate n (0 : UInt8)).map bv := by
  apply List.ext_getElem
  · simp [madeCells]
  · intro i h1 h2
    simp [madeCells, Value.cells, bv, Nat.mod_one]

set_option maxHeartbeats 1600000 in
set_option maxRecDepth 100000 in
theorem dskNew_ok (n : Nat) (w : World) (h0 : 1 ≤ n) (h1 : n ≤ 65536) :
    Calls Try.prog 14 #[.int .i64 n] w (DskNew w.heap.size w ⟨List.replicate (64 * n) 0, [], -1⟩) := by
  obtain ⟨i0, hi, hz0, hz1, hz2⟩ := info_parts u8_info
  have hw64 : IntKind.i64.wrap ((n : Int) * 64) = (n : Int) * 64 := IntWalk.i64_in _ (by omega)
  go_enter Try.func14, Try.ntmps14
  go_wp2_with (at_make; refine wpList_make_full _ rfl (.tmp 11) (.tmp 11) 36 rfl w.heap.size 5 i0 (.int .u8 0) 1 Try.underlying36 hi hz0 hz1 .i64 .i64 ((n : Int) * 64) ((n : Int) * 64) (64 * n) rfl rfl (by omega) (by omega) (by rw [hz2]; omega) (by simp only [maxLen]; omega) (Nat.le_refl _) ?_; intro w1 ho1 hg1)
  have hzs := madeCells_u8 (64 * n)
  rw [hzs] at ho1
  have HM := Lib.hid ((Mod.of_grown hg1).mono (G := Nil) (fun _ _ h => by cases h))
  refine (dskOf_ok _ (64 * n) (64 * n) _ (List.replicate (64 * n) 0) w1 ⟨by omega, by omega, by omega⟩ (by simp) (Rd.of_own ho1)).mono ?_
  rintro r w2 ⟨g, F, rfl, hd, hm⟩
  have HD := Lib.hid hd
  have HM2 := Lib.hid hm
  clear ho1 hg1 hd hm
  go_wp2_with fail
  go_ret2
  exact ⟨g, F, rfl, HD.out.base HM.out.size, HM.out.trans HM2.out⟩

theorem sync_after {B g : Nat} {F F1 : Nat → Prop} {s s1 : DSt} {w w1 w2 : World} {vs vw v2 : Value} {wts : List Wt} {e : Ending} (hd : DskIs B w2 g vs vw wts s1) (hF : F1 = DF g vs vw wts) (ho : w2.ownsRow w1.heap.size 5 1 v2 s1.S.length (s1.img.map bv))
    (hm1 : Mod F w w1) (hm2 : Mod Nil w1 w2) (hF1 : ∀ k, F1 k → F k ∨ w.heap.size ≤ k) (hB : B ≤ w.heap.size) (hs : s1.img = s.img) :
    DskPost B w g F ⟨s.img, [], s1.left⟩ e e ((w2.setCell ⟨g, 0, none⟩ v2).setCell ⟨g, 1, none⟩ (.slice none 0 0)) := by
  have hlen : s1.img.length = s1.S.length := imgOf_length hd.fits
  have hm3 : Mod (fun k => k = g) w2 ((w2.setCell ⟨g, 0, none⟩ v2).setCell ⟨g, 1, none⟩ (.slice none 0 0)) := ((Mod.refl (fun k => k = g) w2).set (p := ⟨g, 0, none⟩) (.inl rfl) _).set (p := ⟨g, 1, none⟩) (.inl rfl) _
  have hne : v2.ownBlock ≠ some g := own_blk_ne ho hd.blk (by decide)
  have hgF : F1 g := hF ▸ .inl rfl
  have hsz := Nat.le_trans hB hm1.size
  refine ⟨rfl, DF g v2 (.slice none 0 0) [], ⟨v2, .slice none 0 0, [], rfl, ?_, hd.low, ?_, World.ownsRow_nil _ _ _ _, fun x hx => (by cases hx), rfl, ?_, ?_, ?_⟩, ?_, ?_⟩
  · simpa using (hd.blk.set_ 0 v2).set_ 1 (.slice none 0 0)
  · rw [← hs, hlen]
    exact own_base (own_keep ho hm3 (fun k hk hkg => hne (hkg ▸ hk))) hsz
  · show 0 < s.img.length
    rw [← hs, hlen]; exact hd.pos
  · show s.img.length ≤ _
    rw [← hs, hlen]; exact hd.big
  · show s.img.length % 64 = 0
    rw [← hs, hlen]; exact hd.mod
  · refine (hm1.trans' hm2 (H := F) (fun _ _ h => h) (fun _ _ h => h.elim)).trans' hm3 (fun _ _ h => h) (fun k hk hkg => ?_)
    subst hkg
    exact (hF1 k hgF).resolve_right (by omega)
  · rintro k (rfl | hk | hk | ⟨x, hx, _⟩)
    · exact hF1 k hgF
    · exact .inr (Nat.le_trans hm1.size (ho.lt k hk).1)
    · cases hk
    · cases hx

theorem spend_img (s : DSt) : s.spend.img = s.img := by unfold DSt.spend; split <;> rfl

set_option maxHeartbeats 1600000 in
set_option maxRecDepth 100000 in
theorem dskSync_any (B g : Nat) (F : Nat → Prop) (s : DSt) (w : World) (h : DskAt B w g F s) (hB : B ≤ w.heap.size) (hbig : s.ws.length ≤ 1000000) (hl : s.left ≤ 9223372036854775807) :
    Calls Try.prog 51 #[.pointer (some ⟨g, 0, none⟩)] w (DskPost B w g F (if s.on then ⟨s.img, [], s.spend.left⟩ else s) (.returned (.int .i64 (if s.on then 0 else 20)))) := by
  have HC := Lib.hid (dskOn_any B g F s w h hl)
  have HH := Lib.hid h
  by_cases hon : s.on = true
  · rw [if_pos hon, if_pos hon]
    rw [hon] at HC
    go_enter Try.func51, Try.ntmps51
    go_wp2_with fail
    refine HC.out.mono ?_
    rintro r w1 ⟨rfl, F1, hd1, hm1, hF1⟩
    have HD1 := Lib.hid hd1
    have HM1 := Lib.hid hm1
    have HF1 := Lib.hid hF1
    clear hd1 hm1 hF1 h
    go_wp2_with fail
    refine (dskImage_any B g F1 s.spend w1 HD1.out (by unfold DSt.spend; split <;> exact hbig)).mono ?_
    rintro r w2 ⟨v2, rfl, ho2, hm2⟩
    obtain ⟨A2, c2, rfl, _, _⟩ := own_slice ho2
    obtain ⟨vs, vw, wts, hFF, hd⟩ := HD1.out.keep0 hm2
    have hc0 := hd.blk.cell 0
    have hc1 := hd.blk.cell 1
    have hf0 := hd.blk.frozen 0
    have hf1 := hd.blk.frozen 1
    have hgl := hd.blk.lt
    have HO2 := Lib.hid ho2
    have HM2 := Lib.hid hm2
    have HD := Lib.hid hd
    have HFF := Lib.hid hFF
    clear ho2 hm2 hd hFF
    go_wp2_with fail
    go_ret
    exact sync_after HD.out HFF.out HO2.out HM1.out HM2.out HF1.out hB (spend_img s)
  · rw [if_neg hon, if_neg hon]
    have hon' : s.on = false := by simpa using hon
    rw [hon'] at HC
    go_enter Try.func51, Try.ntmps51
    go_wp2_with fail
    refine HC.out.mono ?_
    rintro r w1 ⟨rfl, F1, hd1, hm1, hF1⟩
    have HD1 := Lib.hid hd1
    have HM1 := Lib.hid hm1
    have HF1 := Lib.hid hF1
    have HE := Lib.hid (show s.spend = s by unfold DSt.on at hon; unfold DSt.spend; rw [if_neg (by simp at hon; omega)])
    clear hd1 hm1 hF1 h
    go_wp2_with fail
    go_ret
    exact ⟨rfl, F1, HE.out ▸ HD1.out, HM1.out, HF1.out⟩

theorem wr_info : (Try.prog.info? 103).map (fun i => (i.zero, i.size, i.bytes)) = some (some (.agg #[.int .i64 0, .slice none 0 0]), 2, 32) := by kernel_rfl

/-- A write that came in: the disk behind it. -/
def DSt.put (s : DSt) (n : Nat) (b : List UInt8) : DSt := ⟨s.S, s.ws ++ [(n, b)], s.left⟩

theorem DSt.there_fits {s : DSt} {n : Nat} (h : s.there n = true) : 64 * n + 64 ≤ s.S.length := by
  unfold DSt.there at h
  simp at h
  omega

theorem cells_new (w : World) (t : TypeId) (cs : Array Value) : ∀ (j : Nat) (u : Value), cs.toList[j]? = some u → (w.alloc (.cells cs t)).cell? ((⟨w.heap.size, 0, none⟩ : Addr).add j) = some u := by
  intro j u hu
  rw [Addr.add_lit, Nat.zero_add, (Blk.new w t cs).cell j]
  simpa using hu

theorem write_after {B g n k c1 c' gb cb : Nat} {A1 A' : Option Addr} {F F1 : Nat → Prop} {s1 : DSt} {w w1 wA w3 : World} {vs : Value} {wts : List Wt} {b : List UInt8} {e : Ending}
    (hd : DskIs B w1 g vs (.slice A1 k c1) wts s1) (hF : F1 = DF g vs (.slice A1 k c1) wts) (hm1 : Mod F w w1) (hF1 : ∀ k, F1 k → F k ∨ w.heap.size ≤ k) (hB : B ≤ w.heap.size) (hmA : Mod Nil w1 wA)
    (hoA : wA.ownsRow w1.heap.size 5 1 (.slice (some ⟨gb, 0, none⟩) 64 cb) 64 (b.map bv)) (hk : wts.length = k) (ht : s1.there n = true)
    (hown : w3.ownsRow B 103 2 (.slice A' (k + 1) c') (k + 1) (wts.flatMap Wt.cells ++ [.int .i64 n, .slice (some ⟨gb, 0, none⟩) 64 cb]))
    (hm3 : Mod (fun j => (Value.slice A1 k c1).ownBlock = some j) wA w3) (hat : ∀ j, (Value.slice A' (k + 1) c').ownBlock = some j → (Value.slice A1 k c1).ownBlock = some j ∨ wA.heap.size ≤ j) :
    DskPost B w g F (s1.put n b) e e (w3.setCell ⟨g, 1, none⟩ (.slice A' (k + 1) c')) := by
  have hdA := hd.keep hmA (fun _ _ => id)
  have hsz := Nat.le_trans hB hm1.size
  have hgbl := (hoA.lt gb rfl)
  have hug : ∀ {B' : Nat} {v : Value} {m : Nat} {xs : List Value}, wA.ownsRow B' 5 1 v m xs → ∀ j, v.ownBlock = some j → ¬ (Value.slice A1 k c1).ownBlock = some j := by
    intro B' v m xs ho j hj hj'
    rcases ho.2 with ⟨rfl, _⟩ | ⟨gj, cap, cur, rfl, _, hh, _⟩
    · cases hj
    · obtain rfl : gj = j := by simpa [Value.ownBlock] using hj
      exact own_blk_ne hdA.waits (show Blk wA gj 5 cur from hh) (by decide) hj'
  have hm4 : Mod (fun j => j = g) w3 (w3.setCell ⟨g, 1, none⟩ (.slice A' (k + 1) c')) := (Mod.refl (fun j => j = g) w3).set (p := ⟨g, 1, none⟩) (.inl rfl) _
  have hg3 : Blk w3 g 101 #[vs, .slice A1 k c1, .int .i64 s1.left] := hdA.blk.keep hm3 hdA.ne_waits
  have hne' : (Value.slice A' (k + 1) c').ownBlock ≠ some g := own_blk_ne hown hg3 (by decide)
  have huk : ∀ {B' : Nat} {v : Value} {m : Nat} {xs : List Value}, wA.ownsRow B' 5 1 v m xs → (w3.setCell ⟨g, 1, none⟩ (.slice A' (k + 1) c')).ownsRow B' 5 1 v m xs := by
    intro B' v m xs ho
    exact own_keep (own_keep ho hm3 (hug ho)) hm4 (fun j hj hjg => own_blk_ne ho hdA.blk (by decide) (hjg ▸ hj))
  have hgF : F1 g := hF ▸ .inl rfl
  have hw1F : ∀ j, F1 j → j < w1.heap.size := fun j hj => by rw [hF] at hj; exact (hd.lt j hj).2
  refine ⟨rfl, DF g vs (.slice A' (k + 1) c') (wts ++ [⟨n, gb, cb, b⟩]), ⟨vs, _, wts ++ [⟨n, gb, cb, b⟩], rfl, ?_, hd.low, huk hdA.sure, ?_, ?_, ?_, hd.pos, hd.big, hd.mod⟩, ?_, ?_⟩
  · simpa [DSt.put] using hg3.set_ 1 (.slice A' (k + 1) c')
  · have := own_keep hown hm4 (fun j hj hjg => hne' (hjg ▸ hj))
    simpa [hk, Wt.cells, Wt.v] using this
  · intro x hx
    rcases List.mem_append.1 hx with hx | hx
    · exact ⟨huk (hdA.all x hx).1, (hdA.all x hx).2⟩
    · obtain rfl : x = ⟨n, gb, cb, b⟩ := by simpa using hx
      exact ⟨own_base (huk hoA) hsz, DSt.there_fits ht, fun hv => by have := (hd.sure.lt gb hv).2; omega⟩
  · simp [DSt.put, hd.st, Wt.st]
  · refine ((hm1.trans' hmA (H := F) (fun _ _ h => h) (fun _ _ h => h.elim)).trans' hm3 (H := F) (fun _ _ h => h) (fun j hj hjv => ?_)).trans' hm4 (fun _ _ h => h) (fun j hj hjg => ?_)
    · exact (hF1 j (hF ▸ .inr (.inr (.inl hjv)))).resolve_right (by omega)
    · subst hjg
      exact (hF1 j hgF).resolve_right (by omega)
  · rintro j (rfl | hj | hj | ⟨x, hx, rfl⟩)
    · exact hF1 _ hgF
    · exact hF1 j (hF ▸ .inr (.inl hj))
    · rcases hat j hj with hj | hj
      · exact hF1 j (hF ▸ .inr (.inr (.inl hj)))
      · exact .inr (by have := hm1.size; have := hmA.size; omega)
    · rcases List.mem_append.1 hx with hx | hx
      · exact hF1 _ (hF ▸ .inr (.inr (.inr ⟨x, hx, rfl⟩)))
      · obtain rfl : x = ⟨n, gb, cb, b⟩ := by simpa using hx
        exact .inr (by have := hm1.size; show w.heap.size ≤ gb; omega)

set_option maxHeartbeats 3200000 in
set_option maxRecDepth 100000 in
theorem dskWrite_ok (B g : Nat) (F : Nat → Prop) (s : DSt) (n : Nat) (A : Option Addr) (cap : Nat) (S : Nat → Prop) (b : List UInt8) (w : World) (h : DskAt B w g F s) (hB : B ≤ w.heap.size) (hbig : s.ws.length ≤ 1000000) (hl : s.left ≤ 9223372036854775807)
    (ht : s.there n = true) (hb : b.length = 64) (hr : Rd S w A (b.map bv)) (hS : ∀ k, S k → ¬ F k) (hon : s.on = true) :
    Calls Try.prog 27 #[.pointer (some ⟨g, 0, none⟩), .int .i64 n, .slice A 64 cap] w (DskPost B w g F (s.spend.put n b) (.returned (.int .i64 0))) := by
  obtain ⟨i0, hi, hz0, hz1, hz2⟩ := info_parts wr_info
  have HT := Lib.hid (dskThere_any B g F s n w h)
  have HO := Lib.hid (dskOn_any B g F s w h hl)
  have HTH := Lib.hid (show s.spend.there n = true by unfold DSt.spend; split <;> exact ht)
  have hws : s.spend.ws.length ≤ 1000000 := by unfold DSt.spend; split <;> exact hbig
  rw [ht] at HT
  rw [hon] at HO
  have HR := Lib.hid hr
  go_enter Try.func27, Try.ntmps27
  go_wp2_with fail
  refine HT.out.mono ?_
  rintro r w0 ⟨rfl, rfl⟩
  go_wp2_with fail
  refine HO.out.mono ?_
  rintro r w1 ⟨rfl, F1, hd1, hm1, hF1⟩
  have HM1 := Lib.hid hm1
  have HF1 := Lib.hid hF1
  obtain ⟨vs, vw, wts, hFF, hd⟩ := hd1
  have hc1 := hd.blk.cell 1
  have hf1 := hd.blk.frozen 1
  have hgl := hd.blk.lt
  obtain ⟨A1, c1, rfl, hc1l, hc1b⟩ := own_slice hd.waits
  obtain ⟨k, hk⟩ : ∃ k, wts.length = k := ⟨_, rfl⟩
  have hkl : k ≤ 1000000 := by rw [hd.st] at hws; simpa [hk] using hws
  rw [hk] at hd hFF hc1 hc1l
  have HK := Lib.hid hk
  have HD := Lib.hid hd
  have HW := Lib.hid (show w1.ownsRow B 103 2 (.slice A1 k c1) k (wts.flatMap Wt.cells) from hk ▸ hd.waits)
  have HFF := Lib.hid hFF
  have HR1 := Lib.hid (hr.keep hm1 hS)
  clear hm1 hF1 hd hFF hr hws hk
  go_wp2_with fail
  go_region_law (first
    | (go_simp
       go_at_call 70
       refine (clone_any S A 64 cap b _ hb (by omega) (HR1.out.keep0 (Mod.refl Nil w1).drew)).mono ?_
       rintro r w2 ⟨v2, rfl, ho2, hm2⟩
       obtain ⟨gb, cb, rfl, hgb, hgbl⟩ := ho2.form (by omega)
       have HO2 := Lib.hid ho2
       have HM2 := Lib.hid (((Mod.refl Nil w1).drew).trans hm2)
       have hc1' := (HM2.out.cell (p := ⟨g, 1, none⟩) hgl id).trans hc1
       have hf1' := (HM2.out.frozen (p := ⟨g, 1, none⟩) hgl id).trans hf1
       have hgl2 : g < w2.heap.size := Nat.lt_of_lt_of_le hgl HM2.out.size
       clear ho2 hm2)
    | (refine step_append_k _ rfl (.tmp 25) (.tmp 30) 99 rfl B 103 i0 (.agg #[.int .i64 0, .slice none 0 0]) 2 32 Try.underlying99 hi hz0 hz1 hz2 rfl (by decide) (.slice A1 k c1) k (wts.flatMap Wt.cells) rfl (own_keep HW.out (HM2.out.alloc _) (fun _ _ => id)) ⟨w2.heap.size, 0, none⟩ 1 1 [.int .i64 n, .slice (some ⟨gb, 0, none⟩) 64 cb] rfl rfl (cells_new w2 _ #[.int .i64 n, .slice (some ⟨gb, 0, none⟩) 64 cb]) (by intro u hu; simp at hu; rcases hu with rfl | rfl <;> rfl) (by omega) (by simp only [maxLen]; omega) (by have := HM1.out.size; have := HM2.out.size; simp; omega) ?_
       intro A' c' w3 hown3 hmod3 hat3
       have hb3 := (HD.out.blk.keep (HM2.out.alloc _) id).keep hmod3 HD.out.ne_waits
       have hc3 := hb3.cell 1
       have hf3 := hb3.frozen 1
       have HW3 := Lib.hid (fun (e : Ending) => write_after (e := e) HD.out HFF.out HM1.out HF1.out hB (HM2.out.alloc _) (own_keep HO2.out ((Mod.refl Nil w2).alloc _) (fun _ _ => id)) HK.out HTH.out hown3 hmod3 hat3)
       clear hb3 hown3 hmod3 hat3))
  all_goals
    go_wp2_with fail
    go_ret
    exact HW3.out _
end Go.Proofs.Ytjmehamkpmimkaa
