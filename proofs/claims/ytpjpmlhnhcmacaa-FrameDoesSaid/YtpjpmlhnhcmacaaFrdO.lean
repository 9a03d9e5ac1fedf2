/- The deeds on the state of the law FrameDoes. -/
import Derived.Test.YtpjpmlhnhcmacaaFrdS
namespace Go.Proofs.Ytpjpmlhnhcmacaa
open Go.RowKit

section
variable {w0 w w' w1 : World} {d : FD}

theorem fs_newScope (h : FSP 0 w0 w d) (N : Int) (k : Option Nat) (hN : N ≤ 1000) (hk : ∀ j, k = some j → j < d.ss.length) :
    Calls Try.prog 9 #[.int .i64 N, upV (d.bs.map (·.1)) k] w fun r w' => ∃ p, r = .returned (scp p.1) ∧ FSP 0 w0 w' { d with col := nc d.col w.heap.size 2, bs := d.bs ++ [p], ss := d.ss ++ [⟨List.replicate (max N 0).toNat 0, k⟩] } ∧ Side w d.col w' (nc d.col w.heap.size 2) := by
  refine (newScope_any w0.heap.size d.bs d.ss N k w (h.sc (by decide)) h.mod.size hN hk).mono ?_
  rintro r w' ⟨p, rfl, hs, hm, h1, h2⟩
  refine ⟨p, rfl, (h.others hm 2 (fun _ _ h => h.elim)).put2 hs ?_ (by simp) (fun k hk => ?_), side_of hm (fun _ _ h => h.elim) (by decide)⟩
  · rintro k ⟨q, hq, hk⟩
    refine nc_of (fun hlt => ?_)
    rcases List.mem_append.1 hq with hq | hq
    · exact h.c2 k ⟨q, hq, hk⟩
    · obtain rfl : q = p := by simpa using hq
      rcases hk with rfl | rfl <;> omega
  · rw [List.map_append]
    exact upV_snoc (fun j hj => by rw [List.length_map]; exact hk j hj) _

theorem FSP.row_app (h : FSP 0 w0 w d) {A' : Option Addr} {c' n b : Nat} (hn : d.cs.length = n) (hm0 : Mod Nil w w1) (hown : w'.ownsRow w0.heap.size 38 1 (.slice A' (n + 1) c') (n + 1) (d.cs.map scp ++ [scp b]))
    (hm : Mod (fun k => d.sv.ownBlock = some k) w1 w') (hat : ∀ k, (Value.slice A' (n + 1) c').ownBlock = some k → d.sv.ownBlock = some k ∨ w1.heap.size ≤ k) : FSP 0 w0 w' { d with col := nc d.col w1.heap.size 4, sv := .slice A' (n + 1) c', cs := d.cs ++ [b] } ∧ Side w d.col w' (nc d.col w1.heap.size 4) := by
  have h' := h.keep0 hm0
  refine ⟨?_, (side_nil hm0).trans (side_of hm (fun k _ hk => h.c4 k hk) (by decide))⟩
  refine (h'.others hm 4 (fun k _ hk => ⟨h.c4 k hk, by decide, ((h.row (by decide)).lt k hk).1⟩)).put4 (by subst hn; simpa using hown) (fun k hk => nc_of (fun hlt => ?_))
  rcases hat k hk with h1 | h1
  · exact h.c4 k h1
  · omega

theorem fs_set (h : FSP 0 w0 w d) (k : Option Nat) (up i x : Int) (hk : ∀ j, k = some j → j < d.ss.length) (hup : up ≤ 9223372036854775807) (hbig : ∀ s ∈ d.ss, s.vars.length ≤ 1000) :
    Calls Try.prog 10 #[upV (d.bs.map (·.1)) k, .int .i64 up, .int .i64 i, .int .u64 x] w fun r w' => r = .returned (.bool (outVar d.ss (outI d.ss k up) i).isSome) ∧ ∃ col, FSP 0 w0 w' { d with col := col, ss := match outVar d.ss (outI d.ss k up) i with | none => d.ss | some j => setVar d.ss j i.toNat x } ∧ Side w d.col w' col := by
  refine (set_any w0.heap.size d.bs d.ss k up i x w (h.sc (by decide)) hk hup hbig).mono ?_
  rintro r w' ⟨h1, hm⟩
  have ho := h.others hm 2 (fun k _ hk => ⟨h.c2 k hk, by decide, ((h.sc (by decide)).lt k hk).1⟩)
  have hsd := side_of (col := d.col) hm (fun k _ hk => h.c2 k hk) (show (2 : Nat) ≠ 6 by decide)
  have hc : ∀ k, ScF d.bs k → nc d.col w.heap.size 2 k = 2 := fun k hk => nc_of (fun _ => h.c2 k hk)
  rcases hov : outVar d.ss (outI d.ss k up) i with _ | j
  · rw [hov] at h1
    obtain ⟨rfl, hs⟩ := h1
    exact ⟨rfl, _, ho.put2 hs hc (Nat.le_refl _) (fun _ _ => rfl), hsd⟩
  · rw [hov] at h1
    obtain ⟨rfl, hs⟩ := h1
    exact ⟨rfl, _, ho.put2 hs hc (Nat.le_refl _) (fun _ _ => rfl), hsd⟩

theorem getElem_app {α : Type} {l : List α} {x y : α} {i : Nat} (h : (l ++ [x])[i]? = some y) : l[i]? = some y ∨ (i = l.length ∧ x = y) := by
  rcases Nat.lt_or_ge i l.length with hi | hi
  · rw [List.getElem?_append_left hi] at h
    exact .inl h
  · rw [List.getElem?_append_right hi] at h
    rcases hj : i - l.length with _ | j
    · rw [hj] at h
      simp at h
      exact .inr ⟨by omega, h⟩
    · rw [hj] at h
      simp at h

theorem fs_push (h : FSP 0 w0 w d) (c : Fin 11 → Value) (a : Frm) (h7 : c 7 = .int .u64 a.self) (h8 : c 8 = upV (d.bs.map (·.1)) a.sc) (h9 : ∃ A cp, c 9 = .slice A a.stack.length cp ∧ w.ownsRow w0.heap.size 34 1 (.slice A a.stack.length cp) a.stack.length (a.stack.map wv) ∧ ∀ k, (Value.slice A a.stack.length cp).ownBlock = some k → d.col k = 5)
    (hv : ∀ j, a.sc = some j → j < d.bs.length) (hf : d.fs.length < 200) (hl0 : 0 ≤ d.last) (hl1 : d.last ≤ 1000000000) :
    Calls Try.prog 11 #[.pointer (some ⟨d.g, 0, none⟩), .agg (frCells c 0 a.home)] w fun r w' => r = .returned (.tuple #[.int .i64 (d.last + 1), .int .i64 0]) ∧ ∃ (v' : Value) (f : Fr) (col : Nat → Nat), FSP 0 w0 w' { d with col := col, v := v', last := d.last + 1, fs := d.fs ++ [f], fl := d.fl ++ [⟨d.last + 1, if a.home = 0 then d.last + 1 else a.home, a.self, a.stack, a.sc⟩] } ∧ Side w d.col w' col := by
  refine (push_ok w0.heap.size d.g d.v d.last d.fs c 0 a.home w (h.stk (by decide)) h.mod.size hf hl0 hl1).mono ?_
  rintro r w' ⟨rfl, v', hs, hm, hat⟩
  have hF : ∀ k, k < w.heap.size → Foot2 d.g d.v k → d.col k = 1 ∧ 1 ≠ 5 ∧ w0.heap.size ≤ k := fun k _ hk => ⟨h.c1 k (.inl hk), by decide, (h.lt1 k (.inl hk)).1⟩
  have ho := h.others hm 1 hF
  refine ⟨rfl, v', _, _, ho.put1 hs ?_ (by simp [h.frl]) ?_ ?_, side_of hm (fun k hk hf => (hF k hk hf).1) (by decide)⟩
  · rintro k (hk | ⟨f, hf, rfl⟩)
    · refine nc_of (fun hlt => ?_)
      rcases hk with rfl | hk
      · exact h.c1 _ (.inl (.inl rfl))
      · rcases hat k hk with h1 | h1
        · exact h.c1 _ (.inl (.inr h1))
        · omega
    · refine nc_of (fun hlt => ?_)
      rcases List.mem_append.1 hf with hf | hf
      · exact h.c1 _ (.inr ⟨f, hf, rfl⟩)
      · obtain rfl := List.mem_singleton.1 hf
        exact absurd hlt (Nat.lt_irrefl _)
  · intro i f b hf hb
    rcases getElem_app hf with hf | ⟨hi, rfl⟩
    · rcases getElem_app hb with hb | ⟨hi, _⟩
      · exact ho.fr i f b hf hb
      · have := (List.getElem?_eq_some_iff.1 hf).1
        have := h.frl
        omega
    · rcases getElem_app hb with hb | ⟨_, rfl⟩
      · have := (List.getElem?_eq_some_iff.1 hb).1
        have := h.frl
        omega
      · obtain ⟨A, cp, e1, e2, e3⟩ := h9
        refine ⟨by simp [frCells, h7], by simp [frCells, h8], by simp [frCells], by simp [frCells], A, cp, by simp [frCells, e1], ?_, fun k hk => (nc_lt (e2.lt k hk).2).trans (e3 k hk)⟩
        exact own_keep e2 hm (fun k hk hf => by have := (hF k (e2.lt k hk).2 hf).1; rw [e3 k hk] at this; omega)
  · intro b hb j hj
    rcases List.mem_append.1 hb with hb | hb
    · exact h.val b hb j hj
    · obtain rfl := List.mem_singleton.1 hb
      exact hv j hj

theorem FSP.cut1 (h : FSP 0 w0 w d) {n : Nat} {v' : Value} (hs : StkAt w0.heap.size w' d.g v' d.last (d.fs.take n)) (hm : Mod (Foot2 d.g d.v) w w') (hat : ∀ k, v'.ownBlock = some k → d.v.ownBlock = some k) :
    FSP 0 w0 w' { d with col := nc d.col w.heap.size 1, v := v', fs := d.fs.take n, fl := d.fl.take n } ∧ Side w d.col w' (nc d.col w.heap.size 1) := by
  refine ⟨?_, side_of hm (fun k _ hk => h.c1 k (.inl hk)) (by decide)⟩
  have ho := h.others hm 1 (fun k _ hk => ⟨h.c1 k (.inl hk), by decide, (h.lt1 k (.inl hk)).1⟩)
  refine ho.put1 hs ?_ (by simp [h.frl]) ?_ (fun a ha => h.val a (List.mem_of_mem_take ha))
  · rintro k (hk | ⟨f, hf, rfl⟩)
    · exact nc_of (fun _ => h.c1 k (.inl (hk.imp id (hat k))))
    · exact nc_of (fun _ => h.c1 _ (.inr ⟨f, List.mem_of_mem_take hf, rfl⟩))
  · intro i f a hf ha
    rw [List.getElem?_take] at hf ha
    split at hf
    · rename_i hlt
      rw [if_pos hlt] at ha
      exact ho.fr i f a hf ha
    · cases hf

theorem fs_pop (h : FSP 0 w0 w d) (hbig : d.fs.length ≤ 200) :
    Calls Try.prog 13 #[.pointer (some ⟨d.g, 0, none⟩)] w fun r w' => r = .returned (.bool (decide (0 < d.fl.length))) ∧ ∃ (v' : Value) (col : Nat → Nat), FSP 0 w0 w' { d with col := col, v := v', fs := d.fs.take (d.fl.length - 1), fl := d.fl.take (d.fl.length - 1) } ∧ Side w d.col w' col := by
  refine (stkPop_any w0.heap.size d.g d.v d.last d.fs w (h.stk (by decide)) hbig).mono ?_
  rintro r w' ⟨rfl, v', hs, hm, hat⟩
  rw [h.frl] at hs ⊢
  exact ⟨rfl, v', _, h.cut1 hs hm hat⟩

theorem fs_popTo (h : FSP 0 w0 w d) (home : Int) (hbig : d.fs.length ≤ 200) :
    Calls Try.prog 14 #[.pointer (some ⟨d.g, 0, none⟩), .int .i64 home] w fun r w' => r = .returned (.bool (decide (0 ≤ idx (d.fl.map (·.id)) home))) ∧ ∃ (v' : Value) (col : Nat → Nat), FSP 0 w0 w' { d with col := col, v := v', fs := d.fs.take (if 0 ≤ idx (d.fl.map (·.id)) home then (idx (d.fl.map (·.id)) home).toNat else d.fl.length), fl := d.fl.take (if 0 ≤ idx (d.fl.map (·.id)) home then (idx (d.fl.map (·.id)) home).toNat else d.fl.length) } ∧ Side w d.col w' col := by
  have hids : IdsAre d.fs (d.fl.map (·.id)) := ⟨by simp [h.frl], fun j f i hf hi => by
    rw [List.getElem?_map] at hi
    obtain ⟨a, ha, rfl⟩ := Option.map_eq_some_iff.1 hi
    exact (h.fr j f a hf ha).id⟩
  refine (stkPopTo_any w0.heap.size d.g d.v d.last d.fs _ home w (h.stk (by decide)) hids hbig).mono ?_
  rintro r w' ⟨rfl, v', hs, hm, hat⟩
  rw [h.frl] at hs
  exact ⟨rfl, v', _, h.cut1 hs hm hat⟩

theorem fs_rpush (h : FSP 0 w0 w d) (p : RAct) (hn : d.acs.length ≤ 100) (hl0 : 0 ≤ d.lst) (hl1 : d.lst ≤ 1000) (hr : Rd (fun k => k < w0.heap.size) w p.A (p.a.stack.map wv)) :
    Calls Try.prog 12 #[.pointer (some ⟨d.gm, 0, none⟩), .agg #[.int .i64 p.a.id, .int .i64 p.a.home, .int .u64 p.a.self, .slice p.A p.a.stack.length p.c, .int .i64 (upI p.a.sc)]] w fun r w' => r = .returned (.tuple #[.int .i64 (d.lst + 1), .int .i64 0]) ∧ ∃ (vl' : Value) (col : Nat → Nat), FSP 0 w0 w' { d with col := col, vl := vl', acs := d.acs ++ [⟨⟨d.lst + 1, if p.a.home = 0 then d.lst + 1 else p.a.home, p.a.self, p.a.stack, p.a.sc⟩, p.A, p.c⟩], lst := d.lst + 1 } ∧ Side w d.col w' col := by
  have hrw := h.rw (by decide)
  refine (rPush_any w0.heap.size d.gm (fun k => k < w0.heap.size) d.vs d.vl d.rb d.sd d.acs d.lst p w hrw h.mod.size hn hl0 hl1 hr (fun k hk => ⟨Nat.lt_of_lt_of_le hk h.mod.size, fun e => by have := hrw.low; omega⟩)).mono ?_
  rintro r w' ⟨rfl, vl', hs, hm, hat⟩
  have ho := h.others hm 3 (fun k _ hk => ⟨h.c3 k (.inl hk), by decide, by rw [hk]; exact hrw.low⟩)
  refine ⟨rfl, vl', _, ho.put3 hs (fun k hk => nc_of (fun hlt => ?_)), side_of hm (fun k _ hk => h.c3 k (.inl hk)) (by decide)⟩
  rcases hk with hk | hk | hk | hk
  · exact h.c3 k (.inl hk)
  · exact h.c3 k (.inr (.inl hk))
  · have := hat k hk
    omega
  · exact h.c3 k (.inr (.inr (.inr hk)))

theorem FSP.rcut (h : FSP 0 w0 w d) {n : Nat} {vl' : Value} (hs : RWd w0.heap.size (fun k => k < w0.heap.size) w' d.gm d.vs vl' d.rb d.sd (d.acs.take n) d.lst) (hm : Mod (fun k => k = d.gm) w w') (hat : ∀ k, vl'.ownBlock = some k → d.vl.ownBlock = some k) :
    FSP 0 w0 w' { d with col := nc d.col w.heap.size 3, vl := vl', acs := d.acs.take n } ∧ Side w d.col w' (nc d.col w.heap.size 3) := by
  refine ⟨?_, side_of hm (fun k _ hk => h.c3 k (.inl hk)) (by decide)⟩
  have hrw := h.rw (by decide)
  have ho := h.others hm 3 (fun k _ hk => ⟨h.c3 k (.inl hk), by decide, by rw [hk]; exact hrw.low⟩)
  exact ho.put3 hs (fun k hk => nc_of (fun _ => h.c3 k (hk.imp id (.imp id (.imp (hat k) id)))))

theorem fs_rpopTo (h : FSP 0 w0 w d) (home : Int) (hbig : d.acs.length ≤ 100) :
    Calls Try.prog 15 #[.pointer (some ⟨d.gm, 0, none⟩), .int .i64 home] w fun r w' => r = .returned (.bool (decide (0 ≤ idx (d.acs.map (·.a.id)) home))) ∧ ∃ (vl' : Value) (col : Nat → Nat), FSP 0 w0 w' { d with col := col, vl := vl', acs := d.acs.take (if 0 ≤ idx (d.acs.map (·.a.id)) home then (idx (d.acs.map (·.a.id)) home).toNat else d.acs.length) } ∧ Side w d.col w' col := by
  have hrw := h.rw (by decide)
  refine (rPopTo_any w0.heap.size d.gm (fun k => k < w0.heap.size) d.vs d.vl d.rb d.sd d.acs d.lst home w hrw hbig (fun j hj e => by have := hrw.low; omega)).mono ?_
  rintro r w' ⟨rfl, vl', hs, hm, hat⟩
  exact ⟨rfl, vl', _, h.rcut hs hm hat⟩
end
end Go.Proofs.Ytpjpmlhnhcmacaa
