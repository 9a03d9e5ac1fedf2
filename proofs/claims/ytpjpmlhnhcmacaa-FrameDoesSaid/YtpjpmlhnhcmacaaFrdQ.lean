/- The document's scopes grow and change; what is read of the state of the law FrameDoes. -/
import Derived.Test.YtpjpmlhnhcmacaaFrdO
namespace Go.Proofs.Ytpjpmlhnhcmacaa
open Go.RowKit

theorem rsc_set (ss : List Scp) (rb : List Nat) (j n : Nat) (x : Int) : ((setVar ss j n x).zip rb).flatMap rscCells = (ss.zip rb).flatMap rscCells := by
  have : ((setVar ss j n x).zip rb).map rscCells = (ss.zip rb).map rscCells := by
    apply List.ext_getElem?
    intro i
    simp only [List.getElem?_map, List.zip, List.getElem?_zipWith, setVar_at]
    rcases ss[i]? with _ | s <;> rcases rb[i]? with _ | b <;> by_cases hij : i = j <;> simp [hij, rscCells]
  rw [List.flatMap_def, List.flatMap_def, this]

section
variable {B g last' : Nat} {S : Nat → Prop} {w w' w1 w0 : World} {vs vl : Value} {rb : List Nat} {ss : List Scp} {acs : List RAct} {last : Int} {d : FD}

theorem RWd.set_ (h : RWd B S w g vs vl rb ss acs last) {j n b : Nat} (hb : rb[j]? = some b) (x : Int) (hS : ∀ k, S k → k < B) :
    RWd B S (w.setCell ⟨b, n, none⟩ (wv x)) g vs vl rb (setVar ss j n x) acs last ∧ Mod (fun k => k = b) w (w.setCell ⟨b, n, none⟩ (wv x)) := by
  have hms : Mod (fun k => k = b) w (w.setCell ⟨b, n, none⟩ (wv x)) := (Mod.refl (fun k => k = b) w).set (p := ⟨b, n, none⟩) (.inl rfl) _
  have hjl : j < ss.length := by rw [← h.len]; exact (List.getElem?_eq_some_iff.1 hb).1
  obtain ⟨sj, hsj⟩ : ∃ s, ss[j]? = some s := ⟨_, List.getElem?_eq_getElem hjl⟩
  obtain ⟨hbj, hbB⟩ := h.vars j sj b hsj hb
  refine ⟨⟨h.blk.keep hms (fun e => Blk.ne_ hbj h.blk (by decide) e.symm), h.low, ?_, own_keep h.acts hms (fun k hk e => own_blk_ne h.acts hbj (by decide) (e ▸ hk)), by rw [setVar_length]; exact h.len, h.nd, fun k s b' hs hb' => ?_, fun p hp => (h.stk p hp).keep hms (fun k hk e => by have := hS k hk; omega), setVar_acy h.acy _ _ _⟩, hms⟩
  · rw [setVar_length, rsc_set]
    exact own_keep h.scs hms (fun k hk e => own_blk_ne h.scs hbj (by decide) (e ▸ hk))
  · rw [setVar_at] at hs
    by_cases hkj : k = j
    · subst hkj
      rw [if_pos rfl, hsj] at hs
      simp at hs
      subst hs
      rw [hb] at hb'
      injection hb' with hb'
      subst hb'
      refine ⟨?_, hbB⟩
      have := hbj.set_ n (wv x)
      rwa [show ((sj.vars.map wv).toArray.setIfInBounds n (wv x)) = ((sj.vars.set n x).map wv).toArray by
        apply Array.toList_inj.1
        simp] at this
    · rw [if_neg hkj] at hs
      obtain ⟨k1, k2⟩ := h.vars k s b' hs hb'
      exact ⟨k1.keep hms (fun e => hkj (nodup_at h.nd (a := b) (by rw [← e]; exact hb') hb)), k2⟩

theorem rscope_after {m n c' b : Nat} {A' : Option Addr} {k : Option Nat} (h : RWd B S w g vs vl rb ss acs last) (hlen : ss.length = m) (hm1 : Mod Nil w w1) (hb : Blk w1 b 34 ((List.replicate n (0 : Int)).map wv).toArray) (hbl : w.heap.size ≤ b) (hB : B ≤ w.heap.size)
    (hown : w'.ownsRow B 41 2 (.slice A' (m + 1) c') (m + 1) ((ss.zip rb).flatMap rscCells ++ rscCells (⟨List.replicate n 0, k⟩, b))) (hm : Mod (fun k => vs.ownBlock = some k) w1 w') (hk : ∀ j, k = some j → j < ss.length) (hS : ∀ k, S k → k < B) :
    RWd B S (w'.setCell ⟨g, 0, none⟩ (.slice A' (m + 1) c')) g (.slice A' (m + 1) c') vl (rb ++ [b]) (ss ++ [⟨List.replicate n 0, k⟩]) acs last ∧ Mod (fun j => j = g ∨ vs.ownBlock = some j) w (w'.setCell ⟨g, 0, none⟩ (.slice A' (m + 1) c')) := by
  have hms : Mod (fun k => k = g) w' (w'.setCell ⟨g, 0, none⟩ (.slice A' (m + 1) c')) := (Mod.refl (fun k => k = g) w').set (p := ⟨g, 0, none⟩) (.inl rfl) _
  have hmw : Mod (fun j => j = g ∨ vs.ownBlock = some j) w (w'.setCell ⟨g, 0, none⟩ (.slice A' (m + 1) c')) := (hm1.trans' hm (H := fun j => j = g ∨ vs.ownBlock = some j) (fun _ _ h => h.elim) (fun _ _ h => .inr h)).trans' hms (fun _ _ h => h) (fun _ _ h => .inl h)
  have hvg : ¬ vs.ownBlock = some g := own_blk_ne h.scs h.blk (by decide)
  have hgb : Blk w' g 31 #[vs, vl, .int .i64 last] := (h.blk.keep hm1 id).keep hm hvg
  have hag : ¬ (Value.slice A' (m + 1) c').ownBlock = some g := own_blk_ne hown hgb (by decide)
  have hbw' : Blk w' b 34 ((List.replicate n (0 : Int)).map wv).toArray := hb.keep hm (fun hk => by have := (h.scs.lt b hk).2; omega)
  have hgl := h.blk.lt
  refine ⟨⟨by simpa using hgb.set_ 0 (.slice A' (m + 1) c'), h.low, ?_, ?_, by simp [h.len], ?_, ?_, fun p hp => (h.stk p hp).keep hmw ?_, snoc_acy h.acy _ hk⟩, hmw⟩
  · have := own_keep hown hms (fun j hj e => hag (by rw [hj, e]))
    have e : ((ss ++ [(⟨List.replicate n 0, k⟩ : Scp)]).zip (rb ++ [b])).flatMap rscCells = (ss.zip rb).flatMap rscCells ++ rscCells (⟨List.replicate n 0, k⟩, b) := by
      rw [List.zip_append h.len.symm]
      simp
    rw [e]
    simpa [hlen] using this
  · refine own_keep h.acts hmw (fun j hj e => ?_)
    rcases e with e | e
    · exact own_blk_ne h.acts h.blk (by decide) (e ▸ hj)
    · exact own_own_ne h.acts h.scs (by decide) hj e
  · rw [List.nodup_append]
    refine ⟨h.nd, by simp, fun a ha c hc => ?_⟩
    have := (h.lt a (.inr (.inr (.inr ha)))).2
    simp at hc
    omega
  · intro i s b' hs hb'
    rcases getElem_app hs with hs | ⟨hi, rfl⟩
    · rcases getElem_app hb' with hb' | ⟨hi, _⟩
      · obtain ⟨k1, k2⟩ := h.vars i s b' hs hb'
        refine ⟨k1.keep hmw (fun e => ?_), k2⟩
        rcases e with e | e
        · exact Blk.ne_ k1 h.blk (by decide) e
        · exact own_blk_ne h.scs k1 (by decide) e
      · have := (List.getElem?_eq_some_iff.1 hs).1
        have := h.len
        omega
    · rcases getElem_app hb' with hb' | ⟨_, rfl⟩
      · have := (List.getElem?_eq_some_iff.1 hb').1
        have := h.len
        omega
      · exact ⟨hbw'.keep hms (by omega), by omega⟩
  · intro j hj e
    have := hS j hj
    rcases e with e | e
    · have := h.low; omega
    · have := (h.scs.lt j e).1; omega

theorem FSP.rscope (h : FSP 0 w0 w d) {m n c' b : Nat} {A' : Option Addr} {k : Option Nat} (hlen : d.sd.length = m) (hm1 : Mod Nil w w1) (hb : Blk w1 b 34 ((List.replicate n (0 : Int)).map wv).toArray) (hbl : w.heap.size ≤ b)
    (hown : w'.ownsRow w0.heap.size 41 2 (.slice A' (m + 1) c') (m + 1) ((d.sd.zip d.rb).flatMap rscCells ++ rscCells (⟨List.replicate n 0, k⟩, b))) (hm : Mod (fun k => d.vs.ownBlock = some k) w1 w') (hat : ∀ k, (Value.slice A' (m + 1) c').ownBlock = some k → d.vs.ownBlock = some k ∨ w1.heap.size ≤ k) (hk : ∀ j, k = some j → j < d.sd.length) :
    FSP 0 w0 (w'.setCell ⟨d.gm, 0, none⟩ (.slice A' (m + 1) c')) { d with col := nc d.col w.heap.size 3, vs := .slice A' (m + 1) c', rb := d.rb ++ [b], sd := d.sd ++ [⟨List.replicate n 0, k⟩] } ∧ Side w d.col (w'.setCell ⟨d.gm, 0, none⟩ (.slice A' (m + 1) c')) (nc d.col w.heap.size 3) := by
  have hrw := h.rw (by decide)
  obtain ⟨q1, q2⟩ := rscope_after hrw hlen hm1 hb hbl h.mod.size hown hm hk (fun _ h => h)
  refine ⟨?_, side_of q2 (fun k _ hk => h.c3 k (hk.imp _root_.id .inl)) (by decide)⟩
  refine (h.others q2 3 (fun k _ hk => ?_)).put3 q1 (fun k hk => nc_of (fun hlt => ?_))
  · have hf : RWF d.gm d.vs d.vl d.rb k := hk.imp id .inl
    exact ⟨h.c3 k hf, by decide, (hrw.lt k hf).1⟩
  · rcases hk with hk | hk | hk | hk
    · exact h.c3 k (.inl hk)
    · rcases hat k hk with h1 | h1
      · exact h.c3 k (.inr (.inl h1))
      · have := hm1.size
        omega
    · exact h.c3 k (.inr (.inr (.inl hk)))
    · rcases List.mem_append.1 hk with hk | hk
      · exact h.c3 k (.inr (.inr (.inr hk)))
      · simp at hk
        omega

theorem FSP.rset (h : FSP 0 w0 w d) {j n b : Nat} (hb : d.rb[j]? = some b) (x : Int) : FSP 0 w0 (w.setCell ⟨b, n, none⟩ (wv x)) { d with col := nc d.col w.heap.size 3, sd := setVar d.sd j n x } ∧ Side w d.col (w.setCell ⟨b, n, none⟩ (wv x)) (nc d.col w.heap.size 3) := by
  have hrw := h.rw (by decide)
  obtain ⟨q1, q2⟩ := hrw.set_ (n := n) hb x (fun _ h => h)
  have hf : RWF d.gm d.vs d.vl d.rb b := .inr (.inr (.inr (List.mem_of_getElem? hb)))
  exact ⟨(h.others q2 3 (fun k _ hk => by rw [hk]; exact ⟨h.c3 b hf, by decide, (hrw.lt b hf).1⟩)).put3 q1 (fun k hk => nc_of (fun _ => h.c3 k hk)), side_of q2 (fun k _ hk => by rw [hk]; exact h.c3 b hf) (by decide)⟩

theorem FSP.all (h : FSP 5 w0 w d) : FSP 0 w0 w d := ⟨fun _ => h.stk (by decide), fun _ => h.sc (by decide), fun _ => h.rw (by decide), fun _ => h.row (by decide), h.mod, h.frl, h.fr, h.c1, h.c2, h.c3, h.c4, h.val⟩

/-- What may be read of it: few of each. -/
structure Few (d : FD) : Prop where
  f1 : d.fl.length ≤ 40
  f2 : d.ss.length ≤ 40
  f3 : ∀ s ∈ d.ss, s.vars.length ≤ 300
  f4 : ∀ a ∈ d.fl, a.stack.length ≤ 20

theorem FSP.wst (h : FSP 0 w0 w d) (hf : Few d) : WSt w.heap.size w d.g d.bs d.ss d.fl := by
  have hs := h.stk (by decide)
  have hsc := h.sc (by decide)
  obtain ⟨A, c, hv, _, _⟩ := own_slice hs.2.1
  refine ⟨(h.lt1 d.g (.inl (.inl rfl))).2, ⟨d.fs.map (·.1), A, c, by simp [h.frl], ?_, ?_, ?_⟩, ⟨_, hsc⟩, fun k hk => (hsc.lt k hk).2, fun a ha j hj => by rw [← hsc.len]; exact h.val a ha j hj, hf.f1, hf.f2, hf.f3, hf.f4⟩
  · have := hs.1.cell 0
    rw [this, ← h.frl]
    simp [hv]
  · have h2 := hs.2.1
    rw [hv] at h2
    have := (Rd.of_own h2).mono (S' := fun k => k < w.heap.size) (fun b hb _ => hb)
    rw [List.map_map]
    exact this
  · intro i f a hf ha
    rw [List.getElem?_map] at hf
    obtain ⟨fr, hfr, rfl⟩ := Option.map_eq_some_iff.1 hf
    have hb := hs.2.2.2 fr (List.mem_of_getElem? hfr)
    obtain ⟨e1, e2, e3, e4, A', c', e5, e6, e7⟩ := h.fr i fr a hfr ha
    exact ⟨hb.1.lt, (hb.1.cell 7).trans e1, (hb.1.cell 8).trans e2, A', c', (hb.1.cell 9).trans e5, (Rd.of_own e6).mono (fun b hb _ => hb)⟩

theorem fs_words (h : FSP 0 w0 w d) (hf : Few d) : Calls Try.prog 19 #[.pointer (some ⟨d.g, 0, none⟩)] w fun r w' => ∃ A c, r = .returned (.slice A (frW d.ss d.fl []).1.length c) ∧ Rd All w' A ((frW d.ss d.fl []).1.map wv) ∧ Mod Nil w w' := by
  refine (words_any d.g d.bs d.ss d.fl w (h.wst hf)).mono ?_
  rintro r w' ⟨A, c, rfl, h1, h2⟩
  exact ⟨A, c, rfl, (Rd.of_own h1).mono (fun _ _ _ => trivial), h2⟩
theorem fs_rwords (h : FSP 0 w0 w d) (hf : Few d) (he : d.sd = d.ss) (hl : d.acs.map (·.a) = d.fl) : Calls Try.prog 20 #[.pointer (some ⟨d.gm, 0, none⟩)] w fun r w' => ∃ A c, r = .returned (.slice A (frW d.ss d.fl []).1.length c) ∧ Rd All w' A ((frW d.ss d.fl []).1.map wv) ∧ Mod Nil w w' := by
  have hrw := h.rw (by decide)
  rw [he] at hrw
  have hmem : ∀ p ∈ d.acs, p.a ∈ d.fl := fun p hp => by rw [← hl]; exact List.mem_map.2 ⟨p, hp, rfl⟩
  have := rWords_any w0.heap.size d.gm (fun k => k < w0.heap.size) d.vs d.vl d.rb d.ss d.acs d.lst w hrw ⟨by have := hf.f1; rw [← hl, List.length_map] at this; exact this, hf.f2, hf.f3, fun p hp => hf.f4 _ (hmem p hp)⟩ (fun p hp j hj => by rw [← (h.sc (by decide)).len]; exact h.val _ (hmem p hp) j hj)
  rw [hl] at this
  refine this.mono ?_
  rintro r w' ⟨A, c, rfl, h1, h2⟩
  exact ⟨A, c, rfl, (Rd.of_own h1).mono (fun _ _ _ => trivial), h2⟩
theorem fs_len (h : FSP 0 w0 w d) : Calls Try.prog 17 #[.pointer (some ⟨d.g, 0, none⟩)] w fun r w' => r = .returned (.int .i64 d.fl.length) ∧ w = w' := by
  have := stkLen_any w0.heap.size d.g d.v d.last d.fs w (h.stk (by decide))
  rw [h.frl] at this
  exact this
theorem fs_top (h : FSP 0 w0 w d) (hbig : d.fl.length ≤ 200) : Calls Try.prog 21 #[.pointer (some ⟨d.g, 0, none⟩)] w fun r w' => (match d.fl.getLast? with | none => r = .returned (.pointer none) | some a => ∃ b, r = .returned (.pointer (some ⟨b, 0, none⟩)) ∧ ∀ wx, Mod Nil w wx → wx.cell? ⟨b, 7, none⟩ = some (.int .u64 a.self) ∧ wx.cell? ⟨b, 11, none⟩ = some (.int .i64 a.id) ∧ wx.cell? ⟨b, 12, none⟩ = some (.int .i64 a.home)) ∧ Mod Nil w w' := by
  have hs := h.stk (by decide)
  refine (stkTop_any w0.heap.size d.g d.v d.last d.fs w hs (by rw [h.frl]; exact hbig)).mono ?_
  rintro r w' ⟨rfl, hm⟩
  refine ⟨?_, hm⟩
  unfold topPtr
  rw [List.getLast?_eq_getElem?, List.getLast?_eq_getElem?, ← h.frl]
  rcases hf : d.fs[d.fs.length - 1]? with _ | f
  · have hn : d.fl[d.fs.length - 1]? = none := by
      rw [List.getElem?_eq_none_iff] at hf ⊢
      rw [← h.frl]
      exact hf
    rw [hn]
  · obtain ⟨a, ha⟩ : ∃ a, d.fl[d.fs.length - 1]? = some a := ⟨_, List.getElem?_eq_getElem (by rw [← h.frl]; exact (List.getElem?_eq_some_iff.1 hf).1)⟩
    rw [ha]
    obtain ⟨e1, e2, e3, e4, _⟩ := h.fr _ f a hf ha
    refine ⟨f.1, rfl, fun wx hmx => ?_⟩
    have hb := (hs.2.2.2 f (List.mem_of_getElem? hf)).1.keep hmx id
    exact ⟨(hb.cell 7).trans e1, (hb.cell 11).trans e3, (hb.cell 12).trans e4⟩
end
end Go.Proofs.Ytpjpmlhnhcmacaa
