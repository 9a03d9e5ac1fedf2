/- The words of a stack: the closure, each, Words. -/
import Derived.Test.YtpjpmlhnhcmacaaFrdW
import Derived.Deep.RegionLaw
namespace Go.Proofs.Ytpjpmlhnhcmacaa
open Go.RowKit

theorem word_info : (Try.prog.info? 34).map (fun i => (i.zero, i.size, i.bytes)) = some (some (.int .u64 0), 1, 8) := by kernel_rfl

/-- The captured slice: at block ob, its words xs. -/
structure OutIs (B : Nat) (w : World) (ob : Nat) (v : Value) (xs : List Int) : Prop where
  blk : Blk w ob 35 #[v]
  own : w.ownsRow B 34 1 v xs.length (xs.map wv)
  low : B ≤ ob
def OutF (ob : Nat) (v : Value) (k : Nat) : Prop := k = ob ∨ v.ownBlock = some k

theorem OutIs.keep {B ob : Nat} {v : Value} {xs : List Int} {w w' : World} {F : Nat → Prop} (h : OutIs B w ob v xs) (hm : Mod F w w') (hF : ∀ k, OutF ob v k → ¬ F k) : OutIs B w' ob v xs :=
  ⟨h.blk.keep hm (hF _ (.inl rfl)), own_keep h.own hm (fun k hk => hF k (.inr hk)), h.low⟩
theorem OutIs.lt {B ob : Nat} {v : Value} {xs : List Int} {w : World} (h : OutIs B w ob v xs) : ∀ k, OutF ob v k → B ≤ k ∧ k < w.heap.size := by
  rintro k (rfl | hk)
  · exact ⟨h.low, h.blk.lt⟩
  · exact h.own.lt k hk
/-- Its blocks hold cells. -/
theorem OutIs.cs {B ob : Nat} {v : Value} {xs : List Int} {w : World} (h : OutIs B w ob v xs) : ∀ k, OutF ob v k → IsCs w k := by
  rintro k (rfl | hk)
  · exact h.blk.isCs
  · rcases h.own.2 with ⟨rfl, _⟩ | ⟨g, cap, cur, rfl, _, hg, _⟩
    · simp [Value.ownBlock] at hk
    · have : g = k := by simpa [Value.ownBlock] using hk
      subst this
      exact ⟨_, _, hg⟩

def wordFn (ob : Nat) : Value := .func (.func 26) #[] #[.pointer (some ⟨ob, 0, none⟩)]

def WordPost (B ob : Nat) (v : Value) (xs : List Int) (w : World) (r : Ending) (w' : World) : Prop := r = .returned (.tuple #[]) ∧ ∃ v', OutIs B w' ob v' xs ∧ Mod (OutF ob v) w w'

set_option maxHeartbeats 1600000 in
set_option maxRecDepth 100000 in
theorem word_any (B ob : Nat) (p : Addr) (v : Value) (xs : List Int) (x : Int) (w : World) (h : OutIs B w ob v xs) (hB : B ≤ w.heap.size) (hc : w.cell? p = some (.int .u64 x)) (hbig : xs.length ≤ 1000000) :
    Calls Try.prog 26 #[.pointer (some p), .pointer (some ⟨ob, 0, none⟩)] w (WordPost B ob v (xs ++ [x]) w) := by
  obtain ⟨i0, hi, hz0, hz1, hz2⟩ := info_parts word_info
  have H := Lib.hid h
  have hc0 := h.blk.cell 0
  have hf0 := h.blk.frozen 0
  have hobl := h.blk.lt
  have hne : ¬ v.ownBlock = some ob := own_blk_ne h.own h.blk (by decide)
  obtain ⟨A, c, rfl, _, _⟩ := own_slice h.own
  have HNE := Lib.hid hne
  have HB := Lib.hid (h.blk.drew.alloc (.cells #[.int .u64 x] 34))
  clear h hne
  go_enter Try.func26, Try.ntmps26
  go_region_law (refine step_append1 _ rfl (.tmp 3) (.tmp 7) 35 rfl B 34 i0 (.int .u64 0) 8 Try.underlying35 hi hz0 hz1 hz2 rfl (.slice A xs.length c) xs.length (xs.map wv) rfl (own_keep H.out.own (((Mod.refl Nil w).drew).alloc _) (fun _ _ => id)) All _ 1 1 [.int .u64 x] rfl rfl (Rd.cells1 _ _ _) (by intro u hu; simp at hu; subst hu; rfl) (by omega) (by simp only [maxLen]; omega) (by simp; omega) ?_; intro A' c' w' hown' hmod' hat'; have hb' := HB.out.keep hmod' HNE.out; have hc0' := hb'.cell 0; have hf0' := hb'.frozen 0; have HB' := Lib.hid hb'; have HOWN' := Lib.hid hown'; have HMOD' := Lib.hid hmod'; have HAT' := Lib.hid hat'; clear hb' hown' hmod' hat')
  all_goals
    go_simp
    go_end0
    have hms : Mod (fun k => k = ob) w' (w'.setCell ⟨ob, 0, none⟩ (.slice A' (xs.length + 1) c')) := (Mod.refl (fun k => k = ob) w').set (p := ⟨ob, 0, none⟩) (.inl rfl) _
    have hne' : ¬ (Value.slice A' (xs.length + 1) c').ownBlock = some ob := own_blk_ne HOWN'.out HB'.out (by decide)
    refine ⟨rfl, .slice A' (xs.length + 1) c', ⟨by simpa using HB'.out.set_ 0 (.slice A' (xs.length + 1) c'), ?_, H.out.low⟩, ?_⟩
    · have := own_keep HOWN'.out hms (fun k hk hkg => hne' (by rw [hk, hkg]))
      simpa [wv] using this
    · exact ((((Mod.refl (OutF ob (.slice A xs.length c)) w).drew).alloc _).trans' HMOD'.out (fun _ _ h => h) (fun _ _ h => .inr h)).trans' hms (fun _ _ h => h) (fun _ _ h => .inl h)

/-! ### what each reads -/
structure RdFr (B : Nat) (w : World) (cs : List Nat) (f : Nat) (a : Frm) : Prop where
  lt : f < B
  self : w.cell? ⟨f, 7, none⟩ = some (.int .u64 a.self)
  sc : w.cell? ⟨f, 8, none⟩ = some (upV cs a.sc)
  stk : ∃ A c, w.cell? ⟨f, 9, none⟩ = some (.slice A a.stack.length c) ∧ Rd (fun k => k < B) w A (a.stack.map wv)
structure WSt (B : Nat) (w : World) (g : Nat) (bs : List (Nat × Nat)) (ss : List Scp) (fs : List Frm) : Prop where
  glt : g < B
  top : ∃ (frs : List Nat) (A : Option Addr) (c : Nat), frs.length = fs.length ∧ w.cell? ⟨g, 0, none⟩ = some (.slice A fs.length c) ∧ Rd (fun k => k < B) w A (frs.map fun f => .pointer (some ⟨f, 0, none⟩)) ∧ ∀ (i f : Nat) (a : Frm), frs[i]? = some f → fs[i]? = some a → RdFr B w (bs.map (·.1)) f a
  sc : ∃ B0, ScAt B0 w bs ss
  sclt : ∀ k, ScF bs k → k < B
  val : ∀ f ∈ fs, ∀ j, f.sc = some j → j < ss.length
  few : fs.length ≤ 40 ∧ ss.length ≤ 40 ∧ (∀ s ∈ ss, s.vars.length ≤ 300) ∧ ∀ f ∈ fs, f.stack.length ≤ 20

section
variable {B g f : Nat} {w w' : World} {cs : List Nat} {a : Frm} {bs : List (Nat × Nat)} {ss : List Scp} {fs : List Frm}
theorem RdFr.keep (h : RdFr B w cs f a) (hB : B ≤ w.heap.size) (hm : Mod (fun k => B ≤ k) w w') : RdFr B w' cs f a := by
  have hc : ∀ i, w'.cell? ⟨f, i, none⟩ = w.cell? ⟨f, i, none⟩ := fun i => hm.cell (p := ⟨f, i, none⟩) (Nat.lt_of_lt_of_le h.lt hB) (by have := h.lt; simp; omega)
  obtain ⟨A, c, h1, h2⟩ := h.stk
  exact ⟨h.lt, (hc _).trans h.self, (hc _).trans h.sc, A, c, (hc _).trans h1, h2.keep hm (fun k hk => by omega)⟩
theorem WSt.keep (h : WSt B w g bs ss fs) (hB : B ≤ w.heap.size) (hm : Mod (fun k => B ≤ k) w w') : WSt B w' g bs ss fs := by
  obtain ⟨frs, A, c, h1, h2, h3, h4⟩ := h.top
  obtain ⟨B0, h5⟩ := h.sc
  refine ⟨h.glt, ⟨frs, A, c, h1, (hm.cell (p := ⟨g, 0, none⟩) (Nat.lt_of_lt_of_le h.glt hB) (by have := h.glt; simp; omega)).trans h2, h3.keep hm (fun k hk => by omega), fun i f a hf ha => (h4 i f a hf ha).keep hB hm⟩, ⟨B0, h5.keep hm (fun k hk => by have := h.sclt k hk; omega)⟩, h.sclt, h.val, h.few⟩
end

/-- Each seen scope is there. -/
def AllIn (seen : List Nat) (n : Nat) : Prop := ∀ j ∈ seen, j < n
theorem scW_in {ss : List Scp} (h : Acy ss) : ∀ (n : Nat) (k : Option Nat) (seen : List Nat), fuelOf k ≤ n → AllIn seen ss.length → (∀ j, k = some j → j < ss.length) → AllIn (scW ss k seen).2 ss.length
  | _, none, seen, _, hs, _ => by rw [scW_none]; exact hs
  | 0, some k, seen, hk, _, _ => by simp [fuelOf] at hk
  | n + 1, some k, seen, hk, hs, hv => by
    have hkl := hv k rfl
    have hup : fuelOf (upOf ss k) ≤ n := by
      rcases hu : upOf ss k with _ | j
      · simp [fuelOf]
      · have := upOf_lt h hu; simp [fuelOf] at hk ⊢; omega
    have hvu : ∀ j, upOf ss k = some j → j < ss.length := fun j hj => Nat.lt_trans (upOf_lt h hj) hkl
    rw [scW_some h]
    split
    · exact scW_in h n _ seen hup hs hvu
    · exact scW_in h n _ (seen ++ [k]) hup (fun j hj => by
        rcases List.mem_append.1 hj with hj | hj
        · exact hs j hj
        · simp at hj; omega) hvu
theorem frW_in {ss : List Scp} (h : Acy ss) : ∀ (fs : List Frm) (seen : List Nat), AllIn seen ss.length → (∀ f ∈ fs, ∀ j, f.sc = some j → j < ss.length) → AllIn (frW ss fs seen).2 ss.length
  | [], seen, hs, _ => hs
  | f :: r, seen, hs, hv => by
    rw [frW]
    exact frW_in h r _ (scW_in h _ f.sc seen (Nat.le_refl _) hs (hv f (by simp))) (fun x hx => hv x (by simp [hx]))

/-- A measure of a scope's pointer. -/
def scMeas (cs : List Nat) : Value → Nat
  | .pointer (some a) => cs.idxOf a.block + 1
  | _ => 0
theorem scMeas_up {cs : List Nat} (hn : cs.Nodup) {k : Option Nat} (hk : ∀ j, k = some j → j < cs.length) : scMeas cs (upV cs k) = fuelOf k := by
  cases k with
  | none => rfl
  | some j =>
    have hj := hk j rfl
    have : cs.getD j 0 = cs[j] := by simp [List.getD, hj]
    simp only [upV, scMeas, fuelOf, this]
    rw [List.Nodup.idxOf_getElem hn]

theorem seen_mem {cs : List Nat} (hn : cs.Nodup) {seen : List Nat} {k : Nat} (hs : AllIn seen cs.length) (hk : k < cs.length) : cs.getD k 0 ∈ seen.map (fun j => cs.getD j 0) ↔ k ∈ seen := by
  constructor
  · intro h
    obtain ⟨j, hj, he⟩ := List.mem_map.1 h
    have hjl := hs j hj
    have e1 : cs.getD k 0 = cs[k] := by simp [List.getD, hk]
    have e2 : cs.getD j 0 = cs[j] := by simp [List.getD, hjl]
    rw [e1, e2] at he
    have := (List.getElem_inj hn).1 he
    subst this
    exact hj
  · intro h
    exact List.mem_map.2 ⟨k, h, rfl⟩

/-- Where each stands: the words so far, the scopes seen. -/
def EachAt (B : Nat) (w0 : World) (ob mb : Nat) (cs : List Nat) (xs : List Int) (seen : List Nat) (wr : World) : Prop :=
  (∃ v, OutIs B wr ob v xs) ∧ SetAt wr mb (seen.map fun j => cs.getD j 0) ∧ Mod (fun k => B ≤ k) w0 wr
theorem EachAt.word {B : Nat} {w0 wr w1 : World} {ob mb : Nat} {cs : List Nat} {xs ys : List Int} {seen : List Nat} {v : Value} {r : Ending} (h : EachAt B w0 ob mb cs xs seen wr) (hv : OutIs B wr ob v xs) (hp : WordPost B ob v ys wr r w1) : r = .returned (.tuple #[]) ∧ EachAt B w0 ob mb cs ys seen w1 := by
  obtain ⟨rfl, v', h1, h2⟩ := hp
  refine ⟨rfl, ⟨v', h1⟩, h.2.1.keep h2 (fun hm => h.2.1.ne (hv.cs mb hm) rfl), h.2.2.trans (h2.mono (fun k _ hk => (hv.lt k hk).1))⟩
theorem EachAt.keep0 {B : Nat} {w0 wr w1 : World} {ob mb : Nat} {cs : List Nat} {xs : List Int} {seen : List Nat} (h : EachAt B w0 ob mb cs xs seen wr) (hm : Mod Nil wr w1) : EachAt B w0 ob mb cs xs seen w1 := by
  obtain ⟨⟨v, h1⟩, h2, h3⟩ := h
  exact ⟨⟨v, h1.keep hm (fun _ _ => id)⟩, h2.keep hm id, h3.trans hm.any⟩
theorem EachAt.seen {B : Nat} {w0 wr w1 : World} {ob mb j : Nat} {cs : List Nat} {xs : List Int} {seen : List Nat} (h : EachAt B w0 ob mb cs xs seen wr) (hB : B ≤ mb) (hs : SetAt w1 mb ((seen.map fun j => cs.getD j 0) ++ [cs.getD j 0])) (hm : Mod (fun k => k = mb) wr w1) : EachAt B w0 ob mb cs xs (seen ++ [j]) w1 := by
  obtain ⟨⟨v, h1⟩, h2, h3⟩ := h
  refine ⟨⟨v, h1.keep hm (fun k hk hkm => h2.ne (h1.cs k hk) hkm)⟩, by simpa using hs, h3.trans (hm.mono (fun k _ hk => by rw [hk]; exact hB))⟩
theorem EachAt.size {B : Nat} {w0 wr : World} {ob mb : Nat} {cs : List Nat} {xs : List Int} {seen : List Nat} (h : EachAt B w0 ob mb cs xs seen wr) : w0.heap.size ≤ wr.heap.size := h.2.2.size

def EachPost (B : Nat) (ob : Nat) (xs : List Int) (w : World) (r : Ending) (w' : World) : Prop := r = .returned (.tuple #[]) ∧ (∃ v', OutIs B w' ob v' xs) ∧ Mod (fun k => B ≤ k) w w'

theorem scW_bd {ss : List Scp} (h : Acy ss) (hv : ∀ k, (varsOf ss k).length ≤ 300) (hs : ss.length ≤ 40) (sc : Option Nat) (seen : List Nat) (hj : ∀ j, sc = some j → j < ss.length) : (scW ss sc seen).1.length ≤ 12000 := by
  have hf : fuelOf sc ≤ 40 := by
    cases hsc : sc with
    | none => simp [fuelOf]
    | some j => have := hj j hsc; simp [fuelOf]; omega
  have := scW_len h hv 40 sc seen hf
  omega
theorem frW_len {ss : List Scp} (h : Acy ss) (hv : ∀ k, (varsOf ss k).length ≤ 300) (hs : ss.length ≤ 40) : ∀ (fs : List Frm) (seen : List Nat), (∀ f ∈ fs, ∀ j, f.sc = some j → j < ss.length) → (∀ f ∈ fs, f.stack.length ≤ 20) → (frW ss fs seen).1.length ≤ fs.length * 12021
  | [], seen, _, _ => by simp [frW]
  | f :: r, seen, hj, hl => by
    have h1 := frW_len h hv hs r (scW ss f.sc seen).2 (fun x hx => hj x (by simp [hx])) (fun x hx => hl x (by simp [hx]))
    have h2 := hl f (by simp)
    have h3 := scW_bd h hv hs f.sc seen (hj f (by simp))
    rw [frW]
    simp only [List.length_append, List.length_cons]
    rw [Nat.add_mul]
    omega
theorem varsOf_len {ss : List Scp} (h : ∀ s ∈ ss, s.vars.length ≤ 300) (k : Nat) : (varsOf ss k).length ≤ 300 := by
  unfold varsOf
  rcases hs : ss[k]? with _ | s
  · simp
  · exact h s (List.mem_of_getElem? hs)
end Go.Proofs.Ytpjpmlhnhcmacaa
