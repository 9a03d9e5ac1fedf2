/- The document's world: Out, Push. -/
import Derived.Test.YtpjpmlhnhcmacaaFrdV
import Derived.Test.YtpjpmlhnhcmacaaAppK
import Derived.BigRegion
import Derived.Outline
namespace Go.Proofs.Ytpjpmlhnhcmacaa
open Go.RowKit

set_option maxHeartbeats 3200000 in
set_option maxRecDepth 100000 in
theorem rOut_any (B g : Nat) (S : Nat → Prop) (vs vl : Value) (rb : List Nat) (ss : List Scp) (acs : List RAct) (last : Int) (k : Option Nat) (up : Int) (w : World) (h : RWd B S w g vs vl rb ss acs last) (hk : ∀ j, k = some j → j < ss.length) (hup : up ≤ 1000) (hbig : ss.length ≤ 1000) :
    Calls Try.prog 8 #[.pointer (some ⟨g, 0, none⟩), .int .i64 (upI k), .int .i64 up] w fun r w' => r = .returned (.int .i64 (upI (outI ss k up))) ∧ w = w' := by
  have H := Lib.hid h
  have HK := Lib.hid hk
  obtain ⟨A, c, rfl, hnc, hcm⟩ := own_slice h.scs
  have hc0 := h.blk.cell 0
  obtain ⟨o, ho⟩ : ∃ o, o = outI ss k up := ⟨_, rfl⟩
  rw [← ho]
  have HO := Lib.hid ho
  have hui : ∀ k : Option Nat, -1 ≤ upI k := by intro k; cases k with | none => simp [upI] | some j => simp only [upI]; omega
  have HUI := Lib.hid hui
  obtain ⟨sv, hsv⟩ : ∃ sv, sv = upI k := ⟨_, rfl⟩
  have HSV := Lib.hid hsv
  rw [← hsv]
  clear h hk ho hui hsv
  by_cases hneg : up < 0
  · have HE := Lib.hid (show upI o = -1 by rw [HO.out, outI_neg _ _ hneg]; rfl)
    go_enter Try.func8, Try.ntmps8
    go_wp2_with fail
    go_loop [1, 7] (fun s i => s = .int .i64 sv ∧ i = .int .i64 0) (fun _ _ => 0)
    case atStart => exact ⟨rfl, rfl⟩
    case round =>
      obtain ⟨rfl, rfl⟩ := hrel
      go_wp2_with fail
      go_ret
      exact ⟨ret_int HE.out.symm, rfl⟩
  · go_enter Try.func8, Try.ntmps8
    go_wp2_with fail
    go_loop [1, 7] (fun s i => ∃ (k' : Option Nat) (m : Nat), s = .int .i64 (upI k') ∧ i = .int .i64 m ∧ (m : Int) ≤ up ∧ outI ss k' (up - m) = o ∧ ∀ j, k' = some j → j < ss.length) (fun _ i => (up - intOf i).toNat)
    case atStart => exact ⟨k, 0, by rw [HSV.out], rfl, by omega, by rw [HO.out]; simp, HK.out⟩
    case round =>
      obtain ⟨k', m, rfl, rfl, hm, hou, hk'⟩ := hrel
      have HOU := Lib.hid hou
      have HK' := Lib.hid hk'
      clear hou hk'
      cases k' with
      | none =>
        have HE := Lib.hid (show upI o = -1 by rw [← HOU.out, outI_none]; rfl)
        simp only [upI]
        go_wp2_with fail
        all_goals
          go_ret
          exact ⟨ret_int HE.out.symm, rfl⟩
      | some j =>
        have hj := HK'.out j rfl
        obtain ⟨s, hs⟩ : ∃ s, ss[j]? = some s := ⟨_, List.getElem?_eq_getElem hj⟩
        obtain ⟨b, _, _, h2⟩ := zip_at H.out.len hs
        obtain ⟨gb, cap, hv, hgb, hgl⟩ := H.out.scs.form (by omega)
        injection hv with hA
        subst hA
        have hcell := H.out.scs.cells (g := gb) rfl (j * 2 + 1) _ h2
        rw [Addr.add_lit, Nat.zero_add] at hcell
        have hue : upOf ss j = s.up := by unfold upOf; rw [hs]; rfl
        have HUE := Lib.hid hue
        have hsu := HUI.out s.up
        have hupl : ∀ i, s.up = some i → i < ss.length := fun i hi => Nat.lt_trans (upOf_lt H.out.acy (by rw [hue]; exact hi)) hj
        have HUL := Lib.hid hupl
        clear hs h2 hue hupl
        simp only [upI]
        by_cases hlt : (m : Int) < up
        · have HN := Lib.hid (show outI ss (upOf ss j) (up - (m + 1 : Nat)) = o by rw [← HOU.out, outI_step ss j (by omega)]; congr 1; omega)
          obtain ⟨su, hsu2⟩ : ∃ su, su = upI s.up := ⟨_, rfl⟩
          rw [← hsu2] at hcell hsu
          have HSU := Lib.hid hsu2
          clear hsu2
          go_wp2_with fail
          go_round
          case rel => exact ⟨s.up, m + 1, by rw [HSU.out]; cases s.up <;> rfl, by go_num, by omega, by rw [← HUE.out]; exact HN.out, HUL.out⟩
          case measure => simp [intOf] <;> omega
        · have HE := Lib.hid (show upI o = j by rw [← HOU.out, show up - (m : Int) = 0 by omega, outI_zero]; rfl)
          go_wp2_with fail
          go_ret
          exact ⟨ret_int HE.out.symm, rfl⟩

theorem act_info : (Try.prog.info? 57).map (fun i => (i.zero, i.size, i.bytes)) = some (some (.agg #[.int .i64 0, .int .i64 0, .int .u64 0, .slice none 0 0, .int .i64 0]), 5, 56) := by kernel_rfl

/-- append, whatever is appended (nil, too), k cells an element: a step. -/
theorem step_append_opt {P : Program} (w : World) {ops : Array Oper} {o : Oper} {a : Act} {K : Act → World → Prop} {Q : Exit → Act → World → Prop} {E : Prop} (hgd : o.guard = none) (s x : Operand) (t : TypeId)
    (ho : o.op = .call { callee := .builtin .append, args := #[s, x], argTypes := #[t, t] })
    (base : Nat) (e : TypeId) (i : TypeInfo) (z : Value) (size bytes : Nat) (ht : P.underlying t = some (.slice e)) (hi : P.info? e = some i) (hz : i.zero = some z)
    (hsize : i.size = size) (hby : i.bytes = bytes) (hzs : z.cells.size = size) (hsz : 0 < size)
    (v : Value) (n : Nat) (xs : List Value) (hs : a.eval s = v) (hown : w.ownsRow base e size v n xs)
    (A : Option Addr) (m c : Nat) (news : List Value) (hx : a.eval x = .slice A m c) (hl : news.length = m * size) (hr : 0 < m → ∃ ad, A = some ad ∧ ∀ j u, news[j]? = some u → w.cell? (ad.add j) = some u) (h1 : ∀ u ∈ news, u.oneCell' = true)
    (hA : A = none → m = 0 ∧ c = 0)
    (hbytes : (n + m) * bytes ≤ 140737488355328) (h63 : n + m ≤ maxLen) (hbase : base ≤ w.heap.size)
    (h : ∀ A' c' w', w'.ownsRow base e size (.slice A' (n + m) c') (n + m) (xs ++ news) → Mod (fun k => v.ownBlock = some k) w w' → (∀ k, (Value.slice A' (n + m) c').ownBlock = some k → v.ownBlock = some k ∨ w.heap.size ≤ k) → K (a.put o.dst (.slice A' (n + m) c')) w') :
    if Region.wanted o (yielded ops a.tmps) = true then Oper.wp P o a w K Q else E := by
  have hw : Region.wanted o (yielded ops a.tmps) = true := by simp [Region.wanted, hgd]
  rcases A with _ | ad
  · obtain ⟨rfl, rfl⟩ := hA rfl
    have hnews : news = [] := List.eq_nil_of_length_eq_zero (by simpa using hl)
    subst hnews
    rw [if_pos hw]
    have hrun := run_append_of_nil (P := P) w base t o.type e i size ht hi v n xs hown 0
    obtain ⟨A', c', rfl, _, _⟩ := own_slice hown
    unfold Oper.wp execOp
    simp only [ho, resolve, invoke, builtin, Sem.run_bind, Sem.run_pure, Result.andThen_ok, List.map_toArray, List.map_cons, List.map_nil, hs, hx, hrun]
    exact h A' c' w (by simpa using hown) (Mod.refl _ _) (fun k hk => .inl hk)
  · rcases Nat.eq_zero_or_pos m with h0 | h0
    · subst h0
      have hnews : news = [] := List.eq_nil_of_length_eq_zero (by simpa using hl)
      subst hnews
      exact step_append_k w hgd s x t ho base e i z size bytes ht hi hz hsize hby hzs hsz v n xs hs hown ad 0 c [] hx (by simp) (fun j u hj => by simp at hj) (fun u hu => by simp at hu) hbytes h63 hbase h
    · obtain ⟨ad', he, hr'⟩ := hr h0
      injection he with he
      subst he
      exact step_append_k w hgd s x t ho base e i z size bytes ht hi hz hsize hby hzs hsz v n xs hs hown ad m c news hx hl hr' h1 hbytes h63 hbase h

theorem own_empty {w : World} {b B : Nat} {e : TypeId} {size : Nat} (h : Blk w b e #[]) (hB : B ≤ b) : w.ownsRow B e size (.slice (some ⟨b, 0, none⟩) 0 0) 0 [] :=
  ⟨by simp, .inr ⟨b, 0, #[], rfl, hB, h, Nat.le_refl _, by simp [maxLen], by simp, by simp⟩⟩

theorem cells_new_ (w : World) (t : TypeId) (cs : Array Value) : ∀ (j : Nat) (u : Value), cs.toList[j]? = some u → (w.alloc (.cells cs t)).cell? ((⟨w.heap.size, 0, none⟩ : Addr).add j) = some u := fun j u hu => by
  have h := Blk.new w t cs
  rw [Addr.add_lit, Nat.zero_add, h.cell j, ← hu]
  simp

theorem blk_after1 {w3 w2 : World} {t : TypeId} {cs : Array Value} (h : Mod (fun k => (Value.slice (some ⟨w3.heap.size, 0, none⟩) 0 0).ownBlock = some k) (((w3.drew).alloc (.cells #[] t)).alloc (.cells cs t)) w2) : Blk w2 (w3.heap.size + 1) t cs := by
  have h0 := Blk.new ((w3.drew).alloc (.cells #[] t)) t cs
  have e : ((w3.drew).alloc (.cells #[] t)).heap.size = w3.heap.size + 1 := by simp
  rw [e] at h0
  exact h0.keep h (fun hk => by simp [Value.ownBlock] at hk)
theorem blk_after2 {w3 w2 : World} {t : TypeId} {cs : Array Value} (h : Mod (fun k => (Value.slice (some ⟨w3.heap.size + 1, 0, none⟩) 0 0).ownBlock = some k) (((w3.drew).alloc (.cells cs t)).alloc (.cells #[] t)) w2) : Blk w2 w3.heap.size t cs :=
  ((Blk.new (w3.drew) t cs).alloc (.cells #[] t)).keep h (fun hk => by simp [Value.ownBlock] at hk)

theorem blk_last {W : World} {n : Nat} {t : TypeId} {cs : Array Value} (h : n = W.heap.size) : Blk (W.alloc (.cells cs t)) n t cs := h ▸ Blk.new W t cs

def RPushPost (B g : Nat) (S : Nat → Prop) (vs : Value) (rb : List Nat) (ss : List Scp) (acs : List RAct) (last : Int) (p : RAct) (w : World) (r : Ending) (w' : World) : Prop :=
  r = .returned (.tuple #[.int .i64 (last + 1), .int .i64 0]) ∧ ∃ vl', RWd B S w' g vs vl' rb ss (acs ++ [⟨⟨last + 1, if p.a.home = 0 then last + 1 else p.a.home, p.a.self, p.a.stack, p.a.sc⟩, p.A, p.c⟩]) (last + 1) ∧ Mod (fun k => k = g) w w' ∧ ∀ k, vl'.ownBlock = some k → w.heap.size ≤ k

theorem blk_cells {w : World} {b : Nat} {t : TypeId} {cs : Array Value} (h : Blk w b t cs) : ∀ (j : Nat) (u : Value), cs.toList[j]? = some u → w.cell? ((⟨b, 0, none⟩ : Addr).add j) = some u := by
  intro j u hu
  rw [Addr.add_lit, Nat.zero_add, h.cell j, ← hu]
  simp
theorem act_one (acs : List RAct) : ∀ u ∈ acs.flatMap actCells, u.oneCell' = true := by
  intro u hu
  obtain ⟨p, _, hp⟩ := List.mem_flatMap.1 hu
  simp [actCells] at hp
  rcases hp with rfl | rfl | rfl | rfl | rfl <;> rfl

theorem rpush_after {B g n : Nat} {S : Nat → Prop} {vs : Value} {A : Option Addr} {c c3 : Nat} {A3 : Option Addr} {rb : List Nat} {ss : List Scp} {acs : List RAct} {last : Int} {q : RAct} {w w3 w4 : World} (h : RWd B S w g vs (.slice A n c) rb ss acs last) (hn : acs.length = n)
    (hm3 : Mod (fun k => k = g) w w3) (hb3 : Blk w3 g 31 #[vs, .slice A n c, .int .i64 (last + 1)]) (hm : Mod Nil w3 w4) (hown : w4.ownsRow B 57 5 (.slice A3 (n + 1) c3) (n + 1) (acs.flatMap actCells ++ actCells q))
    (hat : ∀ k, (Value.slice A3 (n + 1) c3).ownBlock = some k → w.heap.size ≤ k) (hr : Rd S w q.A (q.a.stack.map wv)) (hS : ∀ k, S k → k < w.heap.size ∧ k ≠ g) :
    RWd B S (w4.setCell ⟨g, 1, none⟩ (.slice A3 (n + 1) c3)) g vs (.slice A3 (n + 1) c3) rb ss (acs ++ [q]) (last + 1) ∧ Mod (fun k => k = g) w (w4.setCell ⟨g, 1, none⟩ (.slice A3 (n + 1) c3)) := by
  have hms : Mod (fun k => k = g) w4 (w4.setCell ⟨g, 1, none⟩ (.slice A3 (n + 1) c3)) := (Mod.refl (fun k => k = g) w4).set (p := ⟨g, 1, none⟩) (.inl rfl) _
  have hm4 : Mod (fun k => k = g) w w4 := hm3.trans' hm (fun _ _ h => h) (fun _ _ h => h.elim)
  have hmw : Mod (fun k => k = g) w (w4.setCell ⟨g, 1, none⟩ (.slice A3 (n + 1) c3)) := hm4.trans hms
  have hgl := h.blk.lt
  have hvg : ¬ vs.ownBlock = some g := own_blk_ne h.scs h.blk (by decide)
  refine ⟨⟨?_, h.low, own_keep h.scs hmw (fun k hk hkg => hvg (by rw [hk, hkg])), ?_, h.len, h.nd, fun k s b hs hb => ?_, fun p hp => ?_, h.acy⟩, hmw⟩
  · have := (hb3.keep hm id).set_ 1 (.slice A3 (n + 1) c3)
    simpa using this
  · have := own_keep hown hms (fun k hk hkg => by have := hat k hk; omega)
    simpa [hn] using this
  · obtain ⟨h1, h2⟩ := h.vars k s b hs hb
    exact ⟨h1.keep hmw (fun e => Blk.ne_ h1 h.blk (by decide) e), h2⟩
  · rcases List.mem_append.1 hp with hp | hp
    · exact (h.stk p hp).keep hmw (fun k hk => (hS k hk).2)
    · obtain rfl : p = q := by simpa using hp
      exact hr.keep hmw (fun k hk => (hS k hk).2)

set_option maxHeartbeats 6400000 in
set_option maxRecDepth 100000 in
theorem rPush_any (B g : Nat) (S : Nat → Prop) (vs vl : Value) (rb : List Nat) (ss : List Scp) (acs : List RAct) (last : Int) (p : RAct) (w : World) (h : RWd B S w g vs vl rb ss acs last) (hB : B ≤ w.heap.size) (hn : acs.length ≤ 100) (hl0 : 0 ≤ last) (hl1 : last ≤ 1000)
    (hr : Rd S w p.A (p.a.stack.map wv)) (hS : ∀ k, S k → k < w.heap.size ∧ k ≠ g) :
    Calls Try.prog 12 #[.pointer (some ⟨g, 0, none⟩), .agg #[.int .i64 p.a.id, .int .i64 p.a.home, .int .u64 p.a.self, .slice p.A p.a.stack.length p.c, .int .i64 (upI p.a.sc)]] w (RPushPost B g S vs rb ss acs last p w) := by
  obtain ⟨i0, hi, hz0, hz1, hz2⟩ := info_parts act_info
  have H := Lib.hid h
  obtain ⟨A, c, rfl, hnc, hcm⟩ := own_slice h.acts
  have hc1 := h.blk.cell 1
  have hc2 := h.blk.cell 2
  have hf1 := h.blk.frozen 1
  have hf2 := h.blk.frozen 2
  have hgl := h.blk.lt
  have hne : ((acs.length : Int) == 200) = false := by simp; omega
  have hgne : g ≠ w.heap.size := by omega
  clear h
  obtain ⟨hm, hhm⟩ : ∃ hm, hm = (if p.a.home = 0 then last + 1 else p.a.home) := ⟨_, rfl⟩
  have HHM := Lib.hid hhm
  obtain ⟨q, hq⟩ : ∃ q : RAct, q = ⟨⟨last + 1, hm, p.a.self, p.a.stack, p.a.sc⟩, p.A, p.c⟩ := ⟨_, rfl⟩
  obtain ⟨w3, hw3⟩ : ∃ w3, w3 = (w.setCell ⟨g, 2, none⟩ (.int .i64 (last + 1))).alloc (.cells #[.int .i64 (last + 1), .int .i64 hm, .int .u64 p.a.self, .slice p.A p.a.stack.length p.c, .int .i64 (upI p.a.sc)] 57) := ⟨_, rfl⟩
  have hs1 : (w.setCell ⟨g, 2, none⟩ (.int .i64 (last + 1))).heap.size = w.heap.size := by simp [World.setCell]
  have hb3 : Blk w3 g 31 #[vs, .slice A acs.length c, .int .i64 (last + 1)] := by
    rw [hw3]
    have := (H.out.blk.set_ 2 (.int .i64 (last + 1))).alloc (.cells #[.int .i64 (last + 1), .int .i64 hm, .int .u64 p.a.self, .slice p.A p.a.stack.length p.c, .int .i64 (upI p.a.sc)] 57)
    simpa using this
  have hbx : Blk w3 w.heap.size 57 (actCells q).toArray := by
    rw [hw3, hq]
    have := Blk.new (w.setCell ⟨g, 2, none⟩ (.int .i64 (last + 1))) 57 #[.int .i64 (last + 1), .int .i64 hm, .int .u64 p.a.self, .slice p.A p.a.stack.length p.c, .int .i64 (upI p.a.sc)]
    rw [hs1] at this
    exact this
  have hm3 : Mod (fun k => k = g) w w3 := by rw [hw3]; exact ((Mod.refl (fun k => k = g) w).set (p := ⟨g, 2, none⟩) (.inl rfl) _).alloc _
  have hsz3 : w3.heap.size = w.heap.size + 1 := by rw [hw3]; simp [World.setCell]
  have hgl3 : g < w3.heap.size := by omega
  have hag : ¬ (Value.slice A acs.length c).ownBlock = some g := own_blk_ne H.out.acts H.out.blk (by decide)
  have hown3 := own_keep H.out.acts hm3 (fun k hk hkg => hag (by rw [hk, hkg]))
  have HLEN := Lib.hid (show (acs.flatMap actCells).length = acs.length * 5 from H.out.acts.1)
  have HNIL := Lib.hid (show A = none → acs.length = 0 ∧ c = 0 from fun h => by
    rcases H.out.acts.2 with ⟨hv, _⟩ | ⟨gg, cap, cur, hv, _⟩
    · injection hv with h1 h2 h3; exact ⟨h2, h3⟩
    · injection hv with h1; rw [h] at h1; cases h1)
  have HCL := Lib.hid (show ∀ W, Mod Nil w3 W → 0 < acs.length → ∃ ad, A = some ad ∧ ∀ j u, (acs.flatMap actCells)[j]? = some u → W.cell? (ad.add j) = some u from fun W hmW hpos => by
    obtain ⟨gw, cw, hgw, _, hgwl⟩ := hown3.form hpos
    injection hgw with hC
    subst hC
    exact ⟨_, rfl, fun j u hu => (hmW.cell (by rw [block_of_add]; exact hgwl) id).trans (hown3.cells (g := gw) rfl j u hu)⟩)
  have HPOST := Lib.hid (fun (A3 : Option Addr) (c3 : Nat) (w4 : World) (hm : Mod Nil w3 w4) (hown : w4.ownsRow B 57 5 (.slice A3 (acs.length + 1) c3) (acs.length + 1) (acs.flatMap actCells ++ actCells q)) (hat : ∀ k, (Value.slice A3 (acs.length + 1) c3).ownBlock = some k → w.heap.size ≤ k) => rpush_after H.out rfl hm3 hb3 hm hown hat (by rw [hq]; exact hr) hS)
  have HG := Lib.hid (show ∀ W, Mod Nil w3 W → Blk W g 31 #[vs, .slice A acs.length c, .int .i64 (last + 1)] ∧ Blk W w.heap.size 57 (actCells q).toArray from fun W hm => ⟨hb3.keep hm id, hbx.keep hm id⟩)
  have HQ := Lib.hid hq
  have HRET := Lib.hid (show RPushPost B g S vs rb ss acs last p w = fun r w' => r = .returned (.tuple #[.int .i64 (last + 1), .int .i64 0]) ∧ ∃ vl', RWd B S w' g vs vl' rb ss (acs ++ [q]) (last + 1) ∧ Mod (fun k => k = g) w w' ∧ ∀ k, vl'.ownBlock = some k → w.heap.size ≤ k by unfold RPushPost; rw [hq, hhm])
  have hq0 : ∀ W, Blk W w.heap.size 57 (actCells q).toArray → W.cell? ⟨w.heap.size, 0, none⟩ = some (.int .i64 (last + 1)) ∧ W.cell? ⟨w.heap.size, 1, none⟩ = some (.int .i64 hm) ∧ W.cell? ⟨w.heap.size, 2, none⟩ = some (.int .u64 p.a.self) ∧ W.cell? ⟨w.heap.size, 3, none⟩ = some (.slice p.A p.a.stack.length p.c) ∧ W.cell? ⟨w.heap.size, 4, none⟩ = some (.int .i64 (upI p.a.sc)) := fun W hb => by
    rw [hb.cell 0, hb.cell 1, hb.cell 2, hb.cell 3, hb.cell 4, hq]; exact ⟨rfl, rfl, rfl, rfl, rfl⟩
  have HQ0 := Lib.hid hq0
  have HSZ3 := Lib.hid hsz3
  have hpb : w.heap.size < w3.heap.size := by omega
  have hBw3 : B ≤ w3.heap.size := by omega
  clear hs1 hb3 hbx hm3 hown3 hag hq hq0 hr hS hsz3
  by_cases h0 : p.a.home = 0
  · have h0b : (p.a.home == 0) = true := by simp [h0]
    have HM0 := Lib.hid (show hm = last + 1 by rw [hhm, if_pos h0])
    clear h0 hhm
    rw [HM0.out] at hw3
    go_enter Try.func12, Try.ntmps12
    go_wp2_with fail
    rw [← hw3]
    clear hw3 hc1 hc2 hf1 hf2
    obtain ⟨hbg, hba⟩ := HG.out w3 (Mod.refl Nil w3)
    have hc1 := hbg.cell 1
    have hf1 := hbg.frozen 1
    obtain ⟨hq0, hq1, hq2, hq3, hq4⟩ := HQ0.out w3 hba
    clear hbg hba
    go_region_law (first
      | (refine step_append_opt _ rfl (.tmp 31) (.tmp 35) 29 rfl B 57 i0 (.agg #[.int .i64 0, .int .i64 0, .int .u64 0, .slice none 0 0, .int .i64 0]) 5 56 Try.underlying29 hi hz0 hz1 hz2 rfl (by decide) _ 0 [] rfl (own_empty ?_ ?_) A acs.length c (acs.flatMap actCells) rfl HLEN.out (HCL.out _ ?_) (act_one acs) HNIL.out (by omega) (by simp only [maxLen]; omega) ?_ ?_
         · first
           | exact Blk.new _ _ _
           | exact (Blk.new _ _ _).alloc _
           | (refine blk_last ?_
              simp)
         · first
           | omega
           | (simp; omega)
         · first
           | exact ((Mod.refl Nil w3).drew).alloc _
           | exact (((Mod.refl Nil w3).drew).alloc _).alloc _
         · first
           | omega
           | (simp; omega)
         intro A2 c2 w2 hown2 hmod2 hat2
         have HO2 := Lib.hid (show w2.ownsRow B 57 5 (.slice A2 acs.length c2) acs.length (acs.flatMap actCells) by simpa using hown2)
         have hnb : ∀ b k : Nat, w3.heap.size ≤ b → (Value.slice (some ⟨b, 0, none⟩) 0 0).ownBlock = some k → w3.heap.size ≤ k := fun b k hb hk => by
           have : b = k := by simpa [Value.ownBlock] using hk
           omega
         have hm2 : Mod Nil w3 w2 := by
           first
           | exact (((Mod.refl Nil w3).drew).alloc _).trans' hmod2 (fun _ _ h => h) (fun k hk hkv => by have := hnb _ _ (by simp) hkv; omega)
           | exact ((((Mod.refl Nil w3).drew).alloc _).alloc _).trans' hmod2 (fun _ _ h => h) (fun k hk hkv => by have := hnb _ _ (by simp) hkv; omega)
         have HM2 := Lib.hid hm2
         have HAT2 := Lib.hid (show ∀ k, (Value.slice A2 acs.length c2).ownBlock = some k → w3.heap.size ≤ k from fun k hk => by
           rw [← Nat.zero_add acs.length] at hk
           rcases hat2 k hk with h | h
           · exact hnb _ _ (by simp) h
           · simp at h; omega)
         first
         | have HBX := Lib.hid (blk_after1 hmod2)
         | have HBX := Lib.hid (blk_after2 hmod2)
         | have HBX := Lib.hid trivial
         obtain ⟨hbg, hba⟩ := HG.out w2 hm2
         have hc1 := hbg.cell 1
         have hf1 := hbg.frozen 1
         obtain ⟨hq0, hq1, hq2, hq3, hq4⟩ := HQ0.out w2 hba
         clear hbg hba hm2 hown2 hmod2 hat2 hnb)
      | (refine step_append_opt _ rfl (.tmp 36) (.tmp 38) 29 rfl B 57 i0 (.agg #[.int .i64 0, .int .i64 0, .int .u64 0, .slice none 0 0, .int .i64 0]) 5 56 Try.underlying29 hi hz0 hz1 hz2 rfl (by decide) (.slice A2 acs.length c2) acs.length (acs.flatMap actCells) rfl ?_ _ 1 1 (actCells q) rfl rfl ?_ ?_ (by simp) (by omega) (by simp only [maxLen]; omega) ?_ ?_
         · first
           | exact HO2.out
           | exact own_keep HO2.out ((Mod.refl Nil w2).alloc _) (fun _ _ => id)
         · first
           | (intro _
              refine ⟨_, rfl, ?_⟩
              rw [HQ.out]
              exact cells_new_ w2 _ #[.int .i64 (last + 1), .int .i64 hm, .int .u64 p.a.self, .slice p.A p.a.stack.length p.c, .int .i64 (upI p.a.sc)])
           | (intro _
              refine ⟨_, rfl, ?_⟩
              rw [HQ.out]
              exact blk_cells HBX.out)
         · rw [HQ.out]; intro u hu; simp [actCells] at hu; rcases hu with rfl | rfl | rfl | rfl | rfl <;> rfl
         · have := HM2.out.size
           first
           | omega
           | (simp; omega)
         intro A4 c4 w4 hown4 hmod4 hat4
         have hm4 : Mod Nil w3 w4 := by
           first
           | exact HM2.out.trans' hmod4 (fun _ _ h => h) (fun k hk hkv => by have := HAT2.out k hkv; omega)
           | exact (HM2.out.alloc _).trans' hmod4 (fun _ _ h => h) (fun k hk hkv => by have := HAT2.out k hkv; omega)
         have hlow : ∀ k, (Value.slice A4 (acs.length + 1) c4).ownBlock = some k → w.heap.size ≤ k := fun k hk => by
           rcases hat4 k hk with h | h
           · have := HAT2.out k h; omega
           · have := HM2.out.size
             first
             | omega
             | (simp at h; omega)
         have HFIN := Lib.hid (HPOST.out A4 c4 w4 hm4 hown4 hlow)
         have HLOW := Lib.hid hlow
         obtain ⟨hbg, hba⟩ := HG.out w4 hm4
         have hc1 := hbg.cell 1
         have hf1 := hbg.frozen 1
         obtain ⟨hq0, hq1, hq2, hq3, hq4⟩ := HQ0.out w4 hba
         clear hbg hba hm4 hown4 hmod4 hat4 hlow))
    all_goals
      go_simp
      go_wp2_with fail
      go_ret2
      rw [HRET.out]
      obtain ⟨hfin1, hfin2⟩ := HFIN.out
      exact ⟨rfl, _, hfin1, hfin2, HLOW.out⟩
  · have h0b : (p.a.home == 0) = false := by simp [h0]
    have HM0 := Lib.hid (show hm = p.a.home by rw [hhm, if_neg h0])
    clear h0 hhm
    rw [HM0.out] at hw3
    go_enter Try.func12, Try.ntmps12
    go_wp2_with fail
    rw [← hw3]
    clear hw3 hc1 hc2 hf1 hf2
    obtain ⟨hbg, hba⟩ := HG.out w3 (Mod.refl Nil w3)
    have hc1 := hbg.cell 1
    have hf1 := hbg.frozen 1
    obtain ⟨hq0, hq1, hq2, hq3, hq4⟩ := HQ0.out w3 hba
    clear hbg hba
    go_region_law (first
      | (refine step_append_opt _ rfl (.tmp 31) (.tmp 35) 29 rfl B 57 i0 (.agg #[.int .i64 0, .int .i64 0, .int .u64 0, .slice none 0 0, .int .i64 0]) 5 56 Try.underlying29 hi hz0 hz1 hz2 rfl (by decide) _ 0 [] rfl (own_empty ?_ ?_) A acs.length c (acs.flatMap actCells) rfl HLEN.out (HCL.out _ ?_) (act_one acs) HNIL.out (by omega) (by simp only [maxLen]; omega) ?_ ?_
         · first
           | exact Blk.new _ _ _
           | exact (Blk.new _ _ _).alloc _
           | (refine blk_last ?_
              simp)
         · first
           | omega
           | (simp; omega)
         · first
           | exact ((Mod.refl Nil w3).drew).alloc _
           | exact (((Mod.refl Nil w3).drew).alloc _).alloc _
         · first
           | omega
           | (simp; omega)
         intro A2 c2 w2 hown2 hmod2 hat2
         have HO2 := Lib.hid (show w2.ownsRow B 57 5 (.slice A2 acs.length c2) acs.length (acs.flatMap actCells) by simpa using hown2)
         have hnb : ∀ b k : Nat, w3.heap.size ≤ b → (Value.slice (some ⟨b, 0, none⟩) 0 0).ownBlock = some k → w3.heap.size ≤ k := fun b k hb hk => by
           have : b = k := by simpa [Value.ownBlock] using hk
           omega
         have hm2 : Mod Nil w3 w2 := by
           first
           | exact (((Mod.refl Nil w3).drew).alloc _).trans' hmod2 (fun _ _ h => h) (fun k hk hkv => by have := hnb _ _ (by simp) hkv; omega)
           | exact ((((Mod.refl Nil w3).drew).alloc _).alloc _).trans' hmod2 (fun _ _ h => h) (fun k hk hkv => by have := hnb _ _ (by simp) hkv; omega)
         have HM2 := Lib.hid hm2
         have HAT2 := Lib.hid (show ∀ k, (Value.slice A2 acs.length c2).ownBlock = some k → w3.heap.size ≤ k from fun k hk => by
           rw [← Nat.zero_add acs.length] at hk
           rcases hat2 k hk with h | h
           · exact hnb _ _ (by simp) h
           · simp at h; omega)
         first
         | have HBX := Lib.hid (blk_after1 hmod2)
         | have HBX := Lib.hid (blk_after2 hmod2)
         | have HBX := Lib.hid trivial
         obtain ⟨hbg, hba⟩ := HG.out w2 hm2
         have hc1 := hbg.cell 1
         have hf1 := hbg.frozen 1
         obtain ⟨hq0, hq1, hq2, hq3, hq4⟩ := HQ0.out w2 hba
         clear hbg hba hm2 hown2 hmod2 hat2 hnb)
      | (refine step_append_opt _ rfl (.tmp 36) (.tmp 38) 29 rfl B 57 i0 (.agg #[.int .i64 0, .int .i64 0, .int .u64 0, .slice none 0 0, .int .i64 0]) 5 56 Try.underlying29 hi hz0 hz1 hz2 rfl (by decide) (.slice A2 acs.length c2) acs.length (acs.flatMap actCells) rfl ?_ _ 1 1 (actCells q) rfl rfl ?_ ?_ (by simp) (by omega) (by simp only [maxLen]; omega) ?_ ?_
         · first
           | exact HO2.out
           | exact own_keep HO2.out ((Mod.refl Nil w2).alloc _) (fun _ _ => id)
         · first
           | (intro _
              refine ⟨_, rfl, ?_⟩
              rw [HQ.out]
              exact cells_new_ w2 _ #[.int .i64 (last + 1), .int .i64 hm, .int .u64 p.a.self, .slice p.A p.a.stack.length p.c, .int .i64 (upI p.a.sc)])
           | (intro _
              refine ⟨_, rfl, ?_⟩
              rw [HQ.out]
              exact blk_cells HBX.out)
         · rw [HQ.out]; intro u hu; simp [actCells] at hu; rcases hu with rfl | rfl | rfl | rfl | rfl <;> rfl
         · have := HM2.out.size
           first
           | omega
           | (simp; omega)
         intro A4 c4 w4 hown4 hmod4 hat4
         have hm4 : Mod Nil w3 w4 := by
           first
           | exact HM2.out.trans' hmod4 (fun _ _ h => h) (fun k hk hkv => by have := HAT2.out k hkv; omega)
           | exact (HM2.out.alloc _).trans' hmod4 (fun _ _ h => h) (fun k hk hkv => by have := HAT2.out k hkv; omega)
         have hlow : ∀ k, (Value.slice A4 (acs.length + 1) c4).ownBlock = some k → w.heap.size ≤ k := fun k hk => by
           rcases hat4 k hk with h | h
           · have := HAT2.out k h; omega
           · have := HM2.out.size
             first
             | omega
             | (simp at h; omega)
         have HFIN := Lib.hid (HPOST.out A4 c4 w4 hm4 hown4 hlow)
         have HLOW := Lib.hid hlow
         obtain ⟨hbg, hba⟩ := HG.out w4 hm4
         have hc1 := hbg.cell 1
         have hf1 := hbg.frozen 1
         obtain ⟨hq0, hq1, hq2, hq3, hq4⟩ := HQ0.out w4 hba
         clear hbg hba hm4 hown4 hmod4 hat4 hlow))
    all_goals
      go_simp
      go_wp2_with fail
      go_ret2
      rw [HRET.out]
      obtain ⟨hfin1, hfin2⟩ := HFIN.out
      exact ⟨rfl, _, hfin1, hfin2, HLOW.out⟩
end Go.Proofs.Ytpjpmlhnhcmacaa
