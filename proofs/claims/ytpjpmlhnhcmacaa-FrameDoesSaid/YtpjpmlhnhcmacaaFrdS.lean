/- The state of the law FrameDoes: a colour for each block; the deeds. -/
import Derived.Test.YtpjpmlhnhcmacaaFrdT
namespace Go.Proofs.Ytpjpmlhnhcmacaa
open Go.RowKit

def nc (col : Nat → Nat) (n i : Nat) : Nat → Nat := fun k => if k < n then col k else i
theorem nc_lt {col : Nat → Nat} {n i k : Nat} (h : k < n) : nc col n i k = col k := by simp [nc, h]
theorem nc_of {col : Nat → Nat} {n i k : Nat} (h : k < n → col k = i) : nc col n i k = i := by
  unfold nc
  split
  · exact h (by assumption)
  · rfl

/-- A frame's cells say what an activation says. -/
structure FrOk (B : Nat) (w : World) (col : Nat → Nat) (cs : List Nat) (f : Fr) (a : Frm) : Prop where
  self : f.2[7]? = some (.int .u64 a.self)
  sc : f.2[8]? = some (upV cs a.sc)
  id : f.2[11]? = some (.int .i64 a.id)
  home : f.2[12]? = some (.int .i64 a.home)
  stk : ∃ A c, f.2[9]? = some (.slice A a.stack.length c) ∧ w.ownsRow B 34 1 (.slice A a.stack.length c) a.stack.length (a.stack.map wv) ∧ ∀ k, (Value.slice A a.stack.length c).ownBlock = some k → col k = 5

/-- Where all lies: the stack, its frames, what they say; the scopes; the document's world; the slice of scopes. -/
structure FD where
  col : Nat → Nat
  g : Nat
  v : Value
  last : Int
  fs : List Fr
  fl : List Frm
  bs : List (Nat × Nat)
  ss : List Scp
  gm : Nat
  vs : Value
  vl : Value
  rb : List Nat
  sd : List Scp
  acs : List RAct
  lst : Int
  sv : Value
  cs : List Nat

/-- All but the part i. -/
structure FSP (i : Nat) (w0 w : World) (d : FD) : Prop where
  stk : i ≠ 1 → StkAt w0.heap.size w d.g d.v d.last d.fs
  sc : i ≠ 2 → ScAt w0.heap.size w d.bs d.ss
  rw : i ≠ 3 → RWd w0.heap.size (fun k => k < w0.heap.size) w d.gm d.vs d.vl d.rb d.sd d.acs d.lst
  row : i ≠ 4 → w.ownsRow w0.heap.size 38 1 d.sv d.cs.length (d.cs.map scp)
  mod : Mod Nil w0 w
  frl : d.fs.length = d.fl.length
  fr : ∀ (i : Nat) (f : Fr) (a : Frm), d.fs[i]? = some f → d.fl[i]? = some a → FrOk w0.heap.size w d.col (d.bs.map (·.1)) f a
  c1 : ∀ k, (Foot2 d.g d.v k ∨ ∃ f ∈ d.fs, f.1 = k) → d.col k = 1
  c2 : ∀ k, ScF d.bs k → d.col k = 2
  c3 : ∀ k, RWF d.gm d.vs d.vl d.rb k → d.col k = 3
  c4 : ∀ k, d.sv.ownBlock = some k → d.col k = 4
  val : ∀ a ∈ d.fl, ∀ j, a.sc = some j → j < d.bs.length

section
variable {w0 w w' : World} {d : FD} {F : Nat → Prop} {i : Nat}

theorem FSP.lt1 (h : FSP 0 w0 w d) : ∀ k, (Foot2 d.g d.v k ∨ ∃ f ∈ d.fs, f.1 = k) → w0.heap.size ≤ k ∧ k < w.heap.size := by
  have hs := h.stk (by decide)
  rintro k (hk | ⟨f, hf, rfl⟩)
  · exact ⟨hs.low k hk, hs.lt k hk⟩
  · exact ⟨(hs.2.2.2 f hf).2, (hs.2.2.2 f hf).1.lt⟩
theorem FrOk.own_lt {B : Nat} {col : Nat → Nat} {cs : List Nat} {f : Fr} {a : Frm} (h : FrOk B w col cs f a) (hm : Mod F w w') (hF : ∀ k, k < w.heap.size → F k → col k = i ∧ i ≠ 5) : FrOk B w' (nc col w.heap.size i) cs f a := by
  obtain ⟨A, c, h1, h2, h3⟩ := h.stk
  exact ⟨h.self, h.sc, h.id, h.home, A, c, h1, own_keep h2 hm (fun k hk hf => by
    obtain ⟨e, e5⟩ := hF k (h2.lt k hk).2 hf
    exact e5 (e.symm.trans (h3 k hk))), fun k hk => (nc_lt (h2.lt k hk).2).trans (h3 k hk)⟩

/-- A deed that writes blocks of one colour (and new ones) leaves all else. -/
theorem FSP.others (h : FSP 0 w0 w d) (hm : Mod F w w') (i : Nat) (hF : ∀ k, k < w.heap.size → F k → d.col k = i ∧ i ≠ 5 ∧ w0.heap.size ≤ k) : FSP i w0 w' { d with col := nc d.col w.heap.size i } := by
  have no : ∀ {j k : Nat}, k < w.heap.size → d.col k = j → i ≠ j → ¬ F k := fun hk hc hne hf => hne ((hF _ hk hf).1.symm.trans hc)
  refine ⟨fun hi => ?_, fun hi => ?_, fun hi => ?_, fun hi => ?_, ?_, h.frl, fun j f a hf ha => (h.fr j f a hf ha).own_lt hm (fun k hk hf => ⟨(hF k hk hf).1, (hF k hk hf).2.1⟩), ?_, ?_, ?_, ?_, h.val⟩
  · exact (h.stk (by decide)).keep hm (fun k hk => no (h.lt1 k (.inl hk)).2 (h.c1 k (.inl hk)) hi) (fun f hf => no (h.lt1 f.1 (.inr ⟨f, hf, rfl⟩)).2 (h.c1 _ (.inr ⟨f, hf, rfl⟩)) hi)
  · exact (h.sc (by decide)).keep hm (fun k hk => no ((h.sc (by decide)).lt k hk).2 (h.c2 k hk) hi)
  · exact (h.rw (by decide)).keep hm (fun k hk => no ((h.rw (by decide)).lt k hk).2 (h.c3 k hk) hi) (fun k hk hf => by
      have := (hF k (Nat.lt_of_lt_of_le hk h.mod.size) hf).2.2
      omega)
  · exact own_keep (h.row (by decide)) hm (fun k hk => no ((h.row (by decide)).lt k hk).2 (h.c4 k hk) hi)
  · exact h.mod.trans' hm (fun _ _ h => h) (fun k hk hf => by
      have := (hF k (Nat.lt_of_lt_of_le hk h.mod.size) hf).2.2
      omega)
  · exact fun k hk => (nc_lt (h.lt1 k hk).2).trans (h.c1 k hk)
  · exact fun k hk => (nc_lt ((h.sc (by decide)).lt k hk).2).trans (h.c2 k hk)
  · exact fun k hk => (nc_lt ((h.rw (by decide)).lt k hk).2).trans (h.c3 k hk)
  · exact fun k hk => (nc_lt ((h.row (by decide)).lt k hk).2).trans (h.c4 k hk)
/-- A deed that writes none of all that. -/
theorem FSP.keep0 (h : FSP 0 w0 w d) (hm : Mod Nil w w') : FSP 0 w0 w' d := by
  have h5 := h.others hm 5 (fun _ _ h => h.elim)
  exact ⟨fun _ => h5.stk (by decide), fun _ => h5.sc (by decide), fun _ => h5.rw (by decide), fun _ => h5.row (by decide), h5.mod, h.frl, fun j f a hf ha => by
    obtain ⟨e1, e2, e3, e4, A, c, e5, e6, e7⟩ := h.fr j f a hf ha
    exact ⟨e1, e2, e3, e4, A, c, e5, own_keep e6 hm (fun _ _ => id), e7⟩, h.c1, h.c2, h.c3, h.c4, h.val⟩

/-- What bears the colour 6 stays. -/
def Side (w : World) (col : Nat → Nat) (w' : World) (col' : Nat → Nat) : Prop := ∀ b t cs, Blk w b t cs → col b = 6 → Blk w' b t cs ∧ col' b = 6
theorem side_of {col : Nat → Nat} {F : Nat → Prop} {i : Nat} (hm : Mod F w w') (hF : ∀ k, k < w.heap.size → F k → col k = i) (hi : i ≠ 6) : Side w col w' (nc col w.heap.size i) :=
  fun b _ _ hb hc => ⟨hb.keep hm (fun hf => hi ((hF b hb.lt hf).symm.trans hc)), (nc_lt hb.lt).trans hc⟩
theorem side_nil {col : Nat → Nat} (hm : Mod Nil w w') : Side w col w' col := fun _ _ _ hb hc => ⟨hb.keep hm id, hc⟩
theorem Side.trans {w1 : World} {c c1 c' : Nat → Nat} (h : Side w c w1 c1) (h' : Side w1 c1 w' c') : Side w c w' c' := fun b t cs hb hc => by
  obtain ⟨h1, h2⟩ := h b t cs hb hc
  exact h' b t cs h1 h2

theorem FSP.put1 (h : FSP 1 w0 w d) {v : Value} {last : Int} {fs : List Fr} {fl : List Frm} (hs : StkAt w0.heap.size w d.g v last fs) (hc : ∀ k, (Foot2 d.g v k ∨ ∃ f ∈ fs, f.1 = k) → d.col k = 1) (hl : fs.length = fl.length)
    (hfr : ∀ (i : Nat) (f : Fr) (a : Frm), fs[i]? = some f → fl[i]? = some a → FrOk w0.heap.size w d.col (d.bs.map (·.1)) f a) (hv : ∀ a ∈ fl, ∀ j, a.sc = some j → j < d.bs.length) : FSP 0 w0 w { d with v := v, last := last, fs := fs, fl := fl } :=
  ⟨fun _ => hs, fun _ => h.sc (by decide), fun _ => h.rw (by decide), fun _ => h.row (by decide), h.mod, hl, hfr, hc, h.c2, h.c3, h.c4, hv⟩
theorem FSP.put2 (h : FSP 2 w0 w d) {bs : List (Nat × Nat)} {ss : List Scp} (hs : ScAt w0.heap.size w bs ss) (hc : ∀ k, ScF bs k → d.col k = 2) (hl : d.bs.length ≤ bs.length)
    (hu : ∀ k, (∀ j, k = some j → j < d.bs.length) → upV (bs.map (·.1)) k = upV (d.bs.map (·.1)) k) : FSP 0 w0 w { d with bs := bs, ss := ss } :=
  ⟨fun _ => h.stk (by decide), fun _ => hs, fun _ => h.rw (by decide), fun _ => h.row (by decide), h.mod, h.frl, fun i f a hf ha => by
    obtain ⟨e1, e2, e3, e4, e5⟩ := h.fr i f a hf ha
    exact ⟨e1, by rw [hu _ (h.val a (List.mem_of_getElem? ha))]; exact e2, e3, e4, e5⟩, h.c1, hc, h.c3, h.c4, fun a ha j hj => Nat.lt_of_lt_of_le (h.val a ha j hj) hl⟩
theorem FSP.put3 (h : FSP 3 w0 w d) {vs vl : Value} {rb : List Nat} {sd : List Scp} {acs : List RAct} {lst : Int} (hs : RWd w0.heap.size (fun k => k < w0.heap.size) w d.gm vs vl rb sd acs lst) (hc : ∀ k, RWF d.gm vs vl rb k → d.col k = 3) : FSP 0 w0 w { d with vs := vs, vl := vl, rb := rb, sd := sd, acs := acs, lst := lst } :=
  ⟨fun _ => h.stk (by decide), fun _ => h.sc (by decide), fun _ => hs, fun _ => h.row (by decide), h.mod, h.frl, h.fr, h.c1, h.c2, hc, h.c4, h.val⟩
theorem FSP.put4 (h : FSP 4 w0 w d) {sv : Value} {cs : List Nat} (hs : w.ownsRow w0.heap.size 38 1 sv cs.length (cs.map scp)) (hc : ∀ k, sv.ownBlock = some k → d.col k = 4) : FSP 0 w0 w { d with sv := sv, cs := cs } :=
  ⟨fun _ => h.stk (by decide), fun _ => h.sc (by decide), fun _ => h.rw (by decide), fun _ => hs, h.mod, h.frl, h.fr, h.c1, h.c2, h.c3, hc, h.val⟩
end
end Go.Proofs.Ytpjpmlhnhcmacaa
