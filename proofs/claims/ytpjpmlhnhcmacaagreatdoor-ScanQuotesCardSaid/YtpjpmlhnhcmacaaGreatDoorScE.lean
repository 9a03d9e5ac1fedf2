/- The document's Same, walked. -/
import Derived.Test.YtpjpmlhnhcmacaaGreatDoorScA
import Derived.Test.YtpjpmlhnhcmacaaGreatDoorAb2
namespace Go.Proofs.YtpjpmlhnhcmacaaGreatDoor
open Go.RowKit

def tokEq (places : Bool) (p q : Tok × Nat) : Bool := p.1.kind == q.1.kind && p.1.text == q.1.text && p.1.n == q.1.n && (!places || p.2 == q.2)
def sameL (places : Bool) (a b : List (Tok × Nat)) : Bool := decide (a.length = b.length) && (List.range a.length).all fun i => match a[i]?, b[i]? with
  | some p, some q => tokEq places p q
  | _, _ => true

theorem tkCells_length : ∀ ts : List (Tok × Nat), (tkCells ts).length = ts.length * 4
  | [] => rfl
  | p :: r => by
    have := tkCells_length r
    unfold tkCells at this ⊢
    rw [List.flatMap_cons, List.length_append, this, List.length_cons]
    simp [tkC]
    omega
theorem tkCells_get : ∀ (ts : List (Tok × Nat)) (i : Nat) (p : Tok × Nat) (j : Nat) (u : Value), ts[i]? = some p → (tkC p)[j]? = some u → (tkCells ts)[i * 4 + j]? = some u
  | [], i, p, j, u, h, _ => by simp at h
  | q :: r, 0, p, j, u, h, hu => by
    simp at h
    subst h
    have hj := (List.getElem?_eq_some_iff.1 hu).1
    unfold tkCells
    rw [List.flatMap_cons, Nat.zero_mul, Nat.zero_add, List.getElem?_append_left hj]
    exact hu
  | q :: r, i + 1, p, j, u, h, hu => by
    have := tkCells_get r i p j u (by simpa using h) hu
    unfold tkCells at this ⊢
    rw [List.flatMap_cons, List.getElem?_append_right (by simp [tkC]; omega)]
    rw [← this]
    congr 1
    simp [tkC]
    omega

theorem add_pos_ (a : Addr) (n j : Nat) : a.add (n + (j + 1)) = ⟨(a.add n).block, (a.add n).off + (j + 1), none⟩ := by
  rw [← add_of_add]
  simp [Addr.add]
theorem Rd.tok {S : Nat → Prop} {w : World} {A : Option Addr} {ts : List (Tok × Nat)} (h : Rd S w A (tkCells ts)) {i : Nat} {p : Tok × Nat} (hp : ts[i]? = some p) :
    ∃ ad, A = some ad ∧ ad.block < w.heap.size ∧ w.cell? (ad.add (i * 4)) = some (.int .i64 p.1.kind) ∧ w.cell? ⟨(ad.add (i * 4)).block, (ad.add (i * 4)).off + 1, none⟩ = some (.string (str p.1.text)) ∧ w.cell? ⟨(ad.add (i * 4)).block, (ad.add (i * 4)).off + 2, none⟩ = some (.int .i64 p.1.n) ∧ w.cell? ⟨(ad.add (i * 4)).block, (ad.add (i * 4)).off + 3, none⟩ = some (.int .i64 p.2) := by
  have hl := (List.getElem?_eq_some_iff.1 hp).1
  obtain ⟨ad, rfl, _, hb, hc⟩ := h (by rw [tkCells_length]; omega)
  refine ⟨ad, rfl, hb, ?_, ?_, ?_, ?_⟩
  · exact hc _ _ (tkCells_get ts i p 0 _ hp rfl)
  · rw [← add_pos_]; exact hc _ _ (tkCells_get ts i p 1 _ hp rfl)
  · rw [← add_pos_]; exact hc _ _ (tkCells_get ts i p 2 _ hp rfl)
  · rw [← add_pos_]; exact hc _ _ (tkCells_get ts i p 3 _ hp rfl)


noncomputable def sameBody : Code := (Tryz.f15.body).getD .skip
theorem str_bne (a b : List UInt8) : ((str a).toList == (str b).toList) = (a == b) := by rw [str_toList, str_toList]

set_option maxHeartbeats 1600000 in
set_option maxRecDepth 100000 in
/-- The comparison of two tokens. -/
theorem same_round {Q : Exit → Act → World → Prop} {a : Act} {w : World} {ad bd : Addr} {n k cA cB : Nat} {p q : Tok × Nat} {pl : Bool} {v6 : Value}
    (HF : Sl 72 [(0, .slice (some ad) n cA), (1, .slice (some bd) n cB), (2, .bool pl), (6, v6), (7, .int .i64 k)] a) (hlt : k < n) (hbig : n ≤ 100000) (hadl : ad.block < w.heap.size) (hbdl : bd.block < w.heap.size)
    (ha0 : w.cell? (ad.add (k * 4)) = some (.int .i64 p.1.kind)) (ha1 : w.cell? ⟨(ad.add (k * 4)).block, (ad.add (k * 4)).off + 1, none⟩ = some (.string (str p.1.text))) (ha2 : w.cell? ⟨(ad.add (k * 4)).block, (ad.add (k * 4)).off + 2, none⟩ = some (.int .i64 p.1.n)) (ha3 : w.cell? ⟨(ad.add (k * 4)).block, (ad.add (k * 4)).off + 3, none⟩ = some (.int .i64 p.2))
    (hb0 : w.cell? (bd.add (k * 4)) = some (.int .i64 q.1.kind)) (hb1 : w.cell? ⟨(bd.add (k * 4)).block, (bd.add (k * 4)).off + 1, none⟩ = some (.string (str q.1.text))) (hb2 : w.cell? ⟨(bd.add (k * 4)).block, (bd.add (k * 4)).off + 2, none⟩ = some (.int .i64 q.1.n)) (hb3 : w.cell? ⟨(bd.add (k * 4)).block, (bd.add (k * 4)).off + 3, none⟩ = some (.int .i64 q.2))
    (hQ : ∀ a', Sl 72 [(0, .slice (some ad) n cA), (1, .slice (some bd) n cB), (2, .bool pl), (6, v6), (7, .int .i64 k), (71, .bool !(tokEq pl p q))] a' → Q .normal a' w.drew) :
    (part [1, 1, 0, 1, 0, 0, 1, 0, 0, 0] sameBody).wp Tryz.prog Q a w := by
  obtain ⟨⟨pk, pt, pn⟩, pa⟩ := p
  obtain ⟨⟨qk, qt, qn⟩, qa⟩ := q
  simp only at ha0 ha1 ha2 ha3 hb0 hb1 hb2 hb3
  have HQ := Lib.hid hQ
  have HTE := Lib.hid (show tokEq pl (⟨pk, pt, pn⟩, pa) (⟨qk, qt, qn⟩, qa) = (pk == qk && pt == qt && pn == qn && (!pl || pa == qa)) from rfl)
  clear hQ
  have htx := str_bne pt qt
  conv => arg 2; whnf
  by_cases h1 : pk = qk
  · by_cases h2 : pt = qt
    · have h2' : (pt == qt) = true := by simp [h2]
      rw [h2'] at htx
      by_cases h3 : pn = qn
      · rcases pl with _ | _
        · have HE := Lib.hid (show tokEq false (⟨pk, pt, pn⟩, pa) (⟨qk, qt, qn⟩, qa) = true by rw [HTE.out]; simp [h1, h2, h3])
          clear h2 h2'
          subst h1 h3
          apply sl_flow5 (N := 0) [some 19, some 20, some 21, some 22, some 23, some 24, some 25, some 26, some 27, some 28, some 29, some 30, some 31, some 32, some 33, some 34, some 35, some 36, some 37, some 38, some 39, some 40, some 41, some 42, some 43, some 44, some 45, some 46, some 47, some 48, some 49, some 50, some 51, some 52, some 53, some 54, some 55, some 56, some 57, some 58, some 59, some 60, some 61, some 62, some 63, some 64, some 65, some 66, some 67, some 68, some 69, some 70, some 71] [.quiet 0 0, .quiet 0 0, .quiet 0 0, .quiet 0 0, .quiet 0 0, .quiet 0 0, .quiet 0 0, .quiet 0 0, .quiet 0 0, .quiet 0 0, .quiet 0 0, .quiet 0 0, .quiet 0 0, .quiet 0 0, .quiet 0 0, .quiet 0 0, .quiet 0 0, .quiet 0 0, .quiet 0 0, .quiet 0 0, .quiet 0 0, .quiet 0 0, .quiet 0 0, .quiet 0 0, .quiet 0 0, .quiet 0 0, .quiet 0 0, .quiet 0 0, .quiet 0 0, .quiet 0 0, .quiet 0 0, .quiet 0 0, .quiet 0 0, .quiet 0 0, .quiet 0 0, .quiet 0 0, .quiet 0 0, .quiet 0 0, .quiet 0 0, .quiet 0 0, .quiet 0 0, .quiet 0 0, .quiet 0 0, .quiet 0 0, .quiet 0 0, .quiet 0 0, .quiet 0 0, .quiet 0 0, .quiet 0 0, .quiet 0 0, .quiet 0 0, .quiet 0 0, .quiet 0 0] (PhEq w.drew) [_, _, _, _, _, _, _, _, _, _, _, _, _, _, _, _, _, _, _, _, _, _, _, _, _, _, _, _, _, _, _, _, _, _, _, _, _, _, _, _, (fun _ => undef), (fun _ => undef), (fun _ => undef), (fun _ => undef), (fun _ => undef), (fun _ => undef), (fun _ => undef), (fun _ => undef), (fun _ => undef), (fun _ => undef), (fun _ => undef), _, _] HF
          case hm => kernel_rfl
          case hok => kernel_rfl
          case hfl => rfl
          case h0 => exact (fun _ => ⟨rfl⟩)
          case hobs =>
            apply And.intro
            · apply ob_quiet
              case hg => rfl
              case hop =>
                intro ax wx h k hlo hhi hP hk K hK
                have e0 := hk.see 0 rfl rfl
                clear hk
                go_wp2_with fail
                all_goals first | exact hP | rfl
              case hst => exact fun h h' e => rfl
            apply And.intro
            · apply ob_quiet
              case hg => rfl
              case hop =>
                intro ax wx h k hlo hhi hP hk K hK
                have e7 := hk.see 7 rfl rfl
                clear hk
                go_wp2_with fail
                all_goals first | exact hP | rfl
              case hst => exact fun h h' e => rfl
            apply And.intro
            · apply ob_quiet
              case hg => rfl
              case hop =>
                intro ax wx h k hlo hhi hP hk K hK
                have e19 := hk.see 19 rfl rfl
                have e20 := hk.see 20 rfl rfl
                clear hk
                obtain rfl := hP.eq
                go_wp2_with fail
                all_goals first | exact hP | rfl
              case hst => exact fun h h' e => rfl
            apply And.intro
            · apply ob_quiet
              case hg => rfl
              case hop =>
                intro ax wx h k hlo hhi hP hk K hK
                have e21 := hk.see 21 rfl rfl
                clear hk
                obtain rfl := hP.eq
                go_wp2_with fail
                all_goals first | exact hP | rfl
              case hst => exact fun h h' e => rfl
            apply And.intro
            · apply ob_quiet
              case hg => rfl
              case hop =>
                intro ax wx h k hlo hhi hP hk K hK
                have e22 := hk.see 22 rfl rfl
                clear hk
                obtain rfl := hP.eq
                go_wp2_with fail
                all_goals first | exact hP | rfl
              case hst => exact fun h h' e => rfl
            apply And.intro
            · apply ob_quiet
              case hg => rfl
              case hop =>
                intro ax wx h k hlo hhi hP hk K hK
                have e1 := hk.see 1 rfl rfl
                clear hk
                go_wp2_with fail
                all_goals first | exact hP | rfl
              case hst => exact fun h h' e => rfl
            apply And.intro
            · apply ob_quiet
              case hg => rfl
              case hop =>
                intro ax wx h k hlo hhi hP hk K hK
                have e7 := hk.see 7 rfl rfl
                clear hk
                go_wp2_with fail
                all_goals first | exact hP | rfl
              case hst => exact fun h h' e => rfl
            apply And.intro
            · apply ob_quiet
              case hg => rfl
              case hop =>
                intro ax wx h k hlo hhi hP hk K hK
                have e24 := hk.see 24 rfl rfl
                have e25 := hk.see 25 rfl rfl
                clear hk
                obtain rfl := hP.eq
                go_wp2_with fail
                all_goals first | exact hP | rfl
              case hst => exact fun h h' e => rfl
            apply And.intro
            · apply ob_quiet
              case hg => rfl
              case hop =>
                intro ax wx h k hlo hhi hP hk K hK
                have e26 := hk.see 26 rfl rfl
                clear hk
                obtain rfl := hP.eq
                go_wp2_with fail
                all_goals first | exact hP | rfl
              case hst => exact fun h h' e => rfl
            apply And.intro
            · apply ob_quiet
              case hg => rfl
              case hop =>
                intro ax wx h k hlo hhi hP hk K hK
                have e27 := hk.see 27 rfl rfl
                clear hk
                obtain rfl := hP.eq
                go_wp2_with fail
                all_goals first | exact hP | rfl
              case hst => exact fun h h' e => rfl
            apply And.intro
            · apply ob_quiet
              case hg => rfl
              case hop =>
                intro ax wx h k hlo hhi hP hk K hK
                have e23 := hk.see 23 rfl rfl
                have e28 := hk.see 28 rfl rfl
                clear hk
                obtain rfl := hP.eq
                go_wp2_with fail
                all_goals first | exact hP | rfl
              case hst => exact fun h h' e => rfl
            apply And.intro
            · apply ob_quiet
              case hg => rfl
              case hop =>
                intro ax wx h k hlo hhi hP hk K hK
                have e29 := hk.see 29 rfl rfl
                clear hk
                go_wp2_with fail
                all_goals first | exact hP | rfl
              case hst => exact fun h h' e => rfl
            apply And.intro
            · apply ob_want
              case hg => rfl
              case hj => rfl
              case hv => exact fun _ => rfl
              case hop =>
                intro ax wx h k hlo hhi hP hk K hK
                have e0 := hk.see 0 rfl rfl
                clear hk
                go_wp2_with fail
                all_goals first | exact hP | rfl
              case hst => exact fun h h' e => rfl
            apply And.intro
            · apply ob_want
              case hg => rfl
              case hj => rfl
              case hv => exact fun _ => rfl
              case hop =>
                intro ax wx h k hlo hhi hP hk K hK
                have e7 := hk.see 7 rfl rfl
                clear hk
                go_wp2_with fail
                all_goals first | exact hP | rfl
              case hst => exact fun h h' e => rfl
            apply And.intro
            · apply ob_want
              case hg => rfl
              case hj => rfl
              case hv => exact fun _ => rfl
              case hop =>
                intro ax wx h k hlo hhi hP hk K hK
                have e31 := hk.see 31 rfl rfl
                have e32 := hk.see 32 rfl rfl
                clear hk
                obtain rfl := hP.eq
                go_wp2_with fail
                all_goals first | exact hP | rfl
              case hst => exact fun h h' e => rfl
            apply And.intro
            · apply ob_want
              case hg => rfl
              case hj => rfl
              case hv => exact fun _ => rfl
              case hop =>
                intro ax wx h k hlo hhi hP hk K hK
                have e33 := hk.see 33 rfl rfl
                clear hk
                obtain rfl := hP.eq
                go_wp2_with fail
                all_goals first | exact hP | rfl
              case hst => exact fun h h' e => rfl
            apply And.intro
            · apply ob_want
              case hg => rfl
              case hj => rfl
              case hv => exact fun _ => rfl
              case hop =>
                intro ax wx h k hlo hhi hP hk K hK
                have e34 := hk.see 34 rfl rfl
                clear hk
                obtain rfl := hP.eq
                go_wp2_with fail
                all_goals first | exact hP | rfl
              case hst => exact fun h h' e => rfl
            apply And.intro
            · apply ob_want
              case hg => rfl
              case hj => rfl
              case hv => exact fun _ => rfl
              case hop =>
                intro ax wx h k hlo hhi hP hk K hK
                have e1 := hk.see 1 rfl rfl
                clear hk
                go_wp2_with fail
                all_goals first | exact hP | rfl
              case hst => exact fun h h' e => rfl
            apply And.intro
            · apply ob_want
              case hg => rfl
              case hj => rfl
              case hv => exact fun _ => rfl
              case hop =>
                intro ax wx h k hlo hhi hP hk K hK
                have e7 := hk.see 7 rfl rfl
                clear hk
                go_wp2_with fail
                all_goals first | exact hP | rfl
              case hst => exact fun h h' e => rfl
            apply And.intro
            · apply ob_want
              case hg => rfl
              case hj => rfl
              case hv => exact fun _ => rfl
              case hop =>
                intro ax wx h k hlo hhi hP hk K hK
                have e36 := hk.see 36 rfl rfl
                have e37 := hk.see 37 rfl rfl
                clear hk
                obtain rfl := hP.eq
                go_wp2_with fail
                all_goals first | exact hP | rfl
              case hst => exact fun h h' e => rfl
            apply And.intro
            · apply ob_want
              case hg => rfl
              case hj => rfl
              case hv => exact fun _ => rfl
              case hop =>
                intro ax wx h k hlo hhi hP hk K hK
                have e38 := hk.see 38 rfl rfl
                clear hk
                obtain rfl := hP.eq
                go_wp2_with fail
                all_goals first | exact hP | rfl
              case hst => exact fun h h' e => rfl
            apply And.intro
            · apply ob_want
              case hg => rfl
              case hj => rfl
              case hv => exact fun _ => rfl
              case hop =>
                intro ax wx h k hlo hhi hP hk K hK
                have e39 := hk.see 39 rfl rfl
                clear hk
                obtain rfl := hP.eq
                go_wp2_with fail
                all_goals first | exact hP | rfl
              case hst => exact fun h h' e => rfl
            apply And.intro
            · apply ob_want
              case hg => rfl
              case hj => rfl
              case hv => exact fun _ => rfl
              case hop =>
                intro ax wx h k hlo hhi hP hk K hK
                have e35 := hk.see 35 rfl rfl
                have e40 := hk.see 40 rfl rfl
                clear hk
                obtain rfl := hP.eq
                go_wp2_with fail
                all_goals first | exact hP | rfl
              case hst => exact fun h h' e => rfl
            apply And.intro
            · apply ob_quiet
              case hg => rfl
              case hop =>
                intro ax wx h k hlo hhi hP hk K hK
                have e30 := hk.see 30 rfl rfl
                have e41 := hk.see 41 rfl rfl
                clear hk
                obtain rfl := hP.eq
                go_wp2_with fail
                all_goals first | exact hP | rfl
              case hst => exact fun h h' e => rfl
            apply And.intro
            · apply ob_quiet
              case hg => rfl
              case hop =>
                intro ax wx h k hlo hhi hP hk K hK
                have e42 := hk.see 42 rfl rfl
                clear hk
                go_wp2_with fail
                all_goals first | exact hP | rfl
              case hst => exact fun h h' e => rfl
            apply And.intro
            · apply ob_want
              case hg => rfl
              case hj => rfl
              case hv => exact fun _ => rfl
              case hop =>
                intro ax wx h k hlo hhi hP hk K hK
                have e0 := hk.see 0 rfl rfl
                clear hk
                go_wp2_with fail
                all_goals first | exact hP | rfl
              case hst => exact fun h h' e => rfl
            apply And.intro
            · apply ob_want
              case hg => rfl
              case hj => rfl
              case hv => exact fun _ => rfl
              case hop =>
                intro ax wx h k hlo hhi hP hk K hK
                have e7 := hk.see 7 rfl rfl
                clear hk
                go_wp2_with fail
                all_goals first | exact hP | rfl
              case hst => exact fun h h' e => rfl
            apply And.intro
            · apply ob_want
              case hg => rfl
              case hj => rfl
              case hv => exact fun _ => rfl
              case hop =>
                intro ax wx h k hlo hhi hP hk K hK
                have e44 := hk.see 44 rfl rfl
                have e45 := hk.see 45 rfl rfl
                clear hk
                obtain rfl := hP.eq
                go_wp2_with fail
                all_goals first | exact hP | rfl
              case hst => exact fun h h' e => rfl
            apply And.intro
            · apply ob_want
              case hg => rfl
              case hj => rfl
              case hv => exact fun _ => rfl
              case hop =>
                intro ax wx h k hlo hhi hP hk K hK
                have e46 := hk.see 46 rfl rfl
                clear hk
                obtain rfl := hP.eq
                go_wp2_with fail
                all_goals first | exact hP | rfl
              case hst => exact fun h h' e => rfl
            apply And.intro
            · apply ob_want
              case hg => rfl
              case hj => rfl
              case hv => exact fun _ => rfl
              case hop =>
                intro ax wx h k hlo hhi hP hk K hK
                have e47 := hk.see 47 rfl rfl
                clear hk
                obtain rfl := hP.eq
                go_wp2_with fail
                all_goals first | exact hP | rfl
              case hst => exact fun h h' e => rfl
            apply And.intro
            · apply ob_want
              case hg => rfl
              case hj => rfl
              case hv => exact fun _ => rfl
              case hop =>
                intro ax wx h k hlo hhi hP hk K hK
                have e1 := hk.see 1 rfl rfl
                clear hk
                go_wp2_with fail
                all_goals first | exact hP | rfl
              case hst => exact fun h h' e => rfl
            apply And.intro
            · apply ob_want
              case hg => rfl
              case hj => rfl
              case hv => exact fun _ => rfl
              case hop =>
                intro ax wx h k hlo hhi hP hk K hK
                have e7 := hk.see 7 rfl rfl
                clear hk
                go_wp2_with fail
                all_goals first | exact hP | rfl
              case hst => exact fun h h' e => rfl
            apply And.intro
            · apply ob_want
              case hg => rfl
              case hj => rfl
              case hv => exact fun _ => rfl
              case hop =>
                intro ax wx h k hlo hhi hP hk K hK
                have e49 := hk.see 49 rfl rfl
                have e50 := hk.see 50 rfl rfl
                clear hk
                obtain rfl := hP.eq
                go_wp2_with fail
                all_goals first | exact hP | rfl
              case hst => exact fun h h' e => rfl
            apply And.intro
            · apply ob_want
              case hg => rfl
              case hj => rfl
              case hv => exact fun _ => rfl
              case hop =>
                intro ax wx h k hlo hhi hP hk K hK
                have e51 := hk.see 51 rfl rfl
                clear hk
                obtain rfl := hP.eq
                go_wp2_with fail
                all_goals first | exact hP | rfl
              case hst => exact fun h h' e => rfl
            apply And.intro
            · apply ob_want
              case hg => rfl
              case hj => rfl
              case hv => exact fun _ => rfl
              case hop =>
                intro ax wx h k hlo hhi hP hk K hK
                have e52 := hk.see 52 rfl rfl
                clear hk
                obtain rfl := hP.eq
                go_wp2_with fail
                all_goals first | exact hP | rfl
              case hst => exact fun h h' e => rfl
            apply And.intro
            · apply ob_want
              case hg => rfl
              case hj => rfl
              case hv => exact fun _ => rfl
              case hop =>
                intro ax wx h k hlo hhi hP hk K hK
                have e48 := hk.see 48 rfl rfl
                have e53 := hk.see 53 rfl rfl
                clear hk
                obtain rfl := hP.eq
                go_wp2_with fail
                all_goals first | exact hP | rfl
              case hst => exact fun h h' e => rfl
            apply And.intro
            · apply ob_quiet
              case hg => rfl
              case hop =>
                intro ax wx h k hlo hhi hP hk K hK
                have e43 := hk.see 43 rfl rfl
                have e54 := hk.see 54 rfl rfl
                clear hk
                obtain rfl := hP.eq
                go_wp2_with fail
                all_goals first | exact hP | rfl
              case hst => exact fun h h' e => rfl
            apply And.intro
            · apply ob_quiet
              case hg => rfl
              case hop =>
                intro ax wx h k hlo hhi hP hk K hK
                have e55 := hk.see 55 rfl rfl
                clear hk
                go_wp2_with fail
                all_goals first | exact hP | rfl
              case hst => exact fun h h' e => rfl
            apply And.intro
            · apply ob_want
              case hg => rfl
              case hj => rfl
              case hv => exact fun _ => rfl
              case hop =>
                intro ax wx h k hlo hhi hP hk K hK
                have e2 := hk.see 2 rfl rfl
                clear hk
                go_wp2_with fail
                all_goals first | exact hP | rfl
              case hst => exact fun h h' e => rfl
            apply And.intro
            · apply ob_want
              case hg => rfl
              case hj => rfl
              case hv => exact fun _ => rfl
              case hop =>
                intro ax wx h k hlo hhi hP hk K hK
                have e57 := hk.see 57 rfl rfl
                clear hk
                go_wp2_with fail
                all_goals first | exact hP | rfl
              case hst => exact fun h h' e => rfl
            refine And.intro (ob_skip rfl rfl (fun _ => rfl)) ?_
            refine And.intro (ob_skip rfl rfl (fun _ => rfl)) ?_
            refine And.intro (ob_skip rfl rfl (fun _ => rfl)) ?_
            refine And.intro (ob_skip rfl rfl (fun _ => rfl)) ?_
            refine And.intro (ob_skip rfl rfl (fun _ => rfl)) ?_
            refine And.intro (ob_skip rfl rfl (fun _ => rfl)) ?_
            refine And.intro (ob_skip rfl rfl (fun _ => rfl)) ?_
            refine And.intro (ob_skip rfl rfl (fun _ => rfl)) ?_
            refine And.intro (ob_skip rfl rfl (fun _ => rfl)) ?_
            refine And.intro (ob_skip rfl rfl (fun _ => rfl)) ?_
            refine And.intro (ob_skip rfl rfl (fun _ => rfl)) ?_
            apply And.intro
            · apply ob_want
              case hg => rfl
              case hj => rfl
              case hv => exact fun _ => rfl
              case hop =>
                intro ax wx h k hlo hhi hP hk K hK
                have e58 := hk.see 58 rfl rfl
                have e69 := hk.see 69 rfl rfl
                clear hk
                obtain rfl := hP.eq
                go_wp2_with fail
                all_goals first | exact hP | rfl
              case hst => exact fun h h' e => rfl
            apply And.intro
            · apply ob_quiet
              case hg => rfl
              case hop =>
                intro ax wx h k hlo hhi hP hk K hK
                have e56 := hk.see 56 rfl rfl
                have e70 := hk.see 70 rfl rfl
                clear hk
                obtain rfl := hP.eq
                go_wp2_with fail
                all_goals first | exact hP | rfl
              case hst => exact fun h h' e => rfl
            exact trivial
          intro w' a' h hP HF
          obtain rfl := hP.eq
          exact HQ.out a' (by rw [HE.out]; exact HF.keep [0, 1, 2, 6, 7, 71])
        · by_cases h4 : pa = qa
          · have HE := Lib.hid (show tokEq true (⟨pk, pt, pn⟩, pa) (⟨qk, qt, qn⟩, qa) = true by rw [HTE.out]; simp [h1, h2, h3, h4])
            clear h2 h2'
            subst h1 h3 h4
            apply sl_flow5 (N := 0) [some 19, some 20, some 21, some 22, some 23, some 24, some 25, some 26, some 27, some 28, some 29, some 30, some 31, some 32, some 33, some 34, some 35, some 36, some 37, some 38, some 39, some 40, some 41, some 42, some 43, some 44, some 45, some 46, some 47, some 48, some 49, some 50, some 51, some 52, some 53, some 54, some 55, some 56, some 57, some 58, some 59, some 60, some 61, some 62, some 63, some 64, some 65, some 66, some 67, some 68, some 69, some 70, some 71] [.quiet 0 0, .quiet 0 0, .quiet 0 0, .quiet 0 0, .quiet 0 0, .quiet 0 0, .quiet 0 0, .quiet 0 0, .quiet 0 0, .quiet 0 0, .quiet 0 0, .quiet 0 0, .quiet 0 0, .quiet 0 0, .quiet 0 0, .quiet 0 0, .quiet 0 0, .quiet 0 0, .quiet 0 0, .quiet 0 0, .quiet 0 0, .quiet 0 0, .quiet 0 0, .quiet 0 0, .quiet 0 0, .quiet 0 0, .quiet 0 0, .quiet 0 0, .quiet 0 0, .quiet 0 0, .quiet 0 0, .quiet 0 0, .quiet 0 0, .quiet 0 0, .quiet 0 0, .quiet 0 0, .quiet 0 0, .quiet 0 0, .quiet 0 0, .quiet 0 0, .quiet 0 0, .quiet 0 0, .quiet 0 0, .quiet 0 0, .quiet 0 0, .quiet 0 0, .quiet 0 0, .quiet 0 0, .quiet 0 0, .quiet 0 0, .quiet 0 0, .quiet 0 0, .quiet 0 0] (PhEq w.drew) [_, _, _, _, _, _, _, _, _, _, _, _, _, _, _, _, _, _, _, _, _, _, _, _, _, _, _, _, _, _, _, _, _, _, _, _, _, _, _, _, _, _, _, _, _, _, _, _, _, _, _, _, _] HF
            case hm => kernel_rfl
            case hok => kernel_rfl
            case hfl => rfl
            case h0 => exact (fun _ => ⟨rfl⟩)
            case hobs =>
              apply And.intro
              · apply ob_quiet
                case hg => rfl
                case hop =>
                  intro ax wx h k hlo hhi hP hk K hK
                  have e0 := hk.see 0 rfl rfl
                  clear hk
                  go_wp2_with fail
                  all_goals first | exact hP | rfl
                case hst => exact fun h h' e => rfl
              apply And.intro
              · apply ob_quiet
                case hg => rfl
                case hop =>
                  intro ax wx h k hlo hhi hP hk K hK
                  have e7 := hk.see 7 rfl rfl
                  clear hk
                  go_wp2_with fail
                  all_goals first | exact hP | rfl
                case hst => exact fun h h' e => rfl
              apply And.intro
              · apply ob_quiet
                case hg => rfl
                case hop =>
                  intro ax wx h k hlo hhi hP hk K hK
                  have e19 := hk.see 19 rfl rfl
                  have e20 := hk.see 20 rfl rfl
                  clear hk
                  obtain rfl := hP.eq
                  go_wp2_with fail
                  all_goals first | exact hP | rfl
                case hst => exact fun h h' e => rfl
              apply And.intro
              · apply ob_quiet
                case hg => rfl
                case hop =>
                  intro ax wx h k hlo hhi hP hk K hK
                  have e21 := hk.see 21 rfl rfl
                  clear hk
                  obtain rfl := hP.eq
                  go_wp2_with fail
                  all_goals first | exact hP | rfl
                case hst => exact fun h h' e => rfl
              apply And.intro
              · apply ob_quiet
                case hg => rfl
                case hop =>
                  intro ax wx h k hlo hhi hP hk K hK
                  have e22 := hk.see 22 rfl rfl
                  clear hk
                  obtain rfl := hP.eq
                  go_wp2_with fail
                  all_goals first | exact hP | rfl
                case hst => exact fun h h' e => rfl
              apply And.intro
              · apply ob_quiet
                case hg => rfl
                case hop =>
                  intro ax wx h k hlo hhi hP hk K hK
                  have e1 := hk.see 1 rfl rfl
                  clear hk
                  go_wp2_with fail
                  all_goals first | exact hP | rfl
                case hst => exact fun h h' e => rfl
              apply And.intro
              · apply ob_quiet
                case hg => rfl
                case hop =>
                  intro ax wx h k hlo hhi hP hk K hK
                  have e7 := hk.see 7 rfl rfl
                  clear hk
                  go_wp2_with fail
                  all_goals first | exact hP | rfl
                case hst => exact fun h h' e => rfl
              apply And.intro
              · apply ob_quiet
                case hg => rfl
                case hop =>
                  intro ax wx h k hlo hhi hP hk K hK
                  have e24 := hk.see 24 rfl rfl
                  have e25 := hk.see 25 rfl rfl
                  clear hk
                  obtain rfl := hP.eq
                  go_wp2_with fail
                  all_goals first | exact hP | rfl
                case hst => exact fun h h' e => rfl
              apply And.intro
              · apply ob_quiet
                case hg => rfl
                case hop =>
                  intro ax wx h k hlo hhi hP hk K hK
                  have e26 := hk.see 26 rfl rfl
                  clear hk
                  obtain rfl := hP.eq
                  go_wp2_with fail
                  all_goals first | exact hP | rfl
                case hst => exact fun h h' e => rfl
              apply And.intro
              · apply ob_quiet
                case hg => rfl
                case hop =>
                  intro ax wx h k hlo hhi hP hk K hK
                  have e27 := hk.see 27 rfl rfl
                  clear hk
                  obtain rfl := hP.eq
                  go_wp2_with fail
                  all_goals first | exact hP | rfl
                case hst => exact fun h h' e => rfl
              apply And.intro
              · apply ob_quiet
                case hg => rfl
                case hop =>
                  intro ax wx h k hlo hhi hP hk K hK
                  have e23 := hk.see 23 rfl rfl
                  have e28 := hk.see 28 rfl rfl
                  clear hk
                  obtain rfl := hP.eq
                  go_wp2_with fail
                  all_goals first | exact hP | rfl
                case hst => exact fun h h' e => rfl
              apply And.intro
              · apply ob_quiet
                case hg => rfl
                case hop =>
                  intro ax wx h k hlo hhi hP hk K hK
                  have e29 := hk.see 29 rfl rfl
                  clear hk
                  go_wp2_with fail
                  all_goals first | exact hP | rfl
                case hst => exact fun h h' e => rfl
              apply And.intro
              · apply ob_want
                case hg => rfl
                case hj => rfl
                case hv => exact fun _ => rfl
                case hop =>
                  intro ax wx h k hlo hhi hP hk K hK
                  have e0 := hk.see 0 rfl rfl
                  clear hk
                  go_wp2_with fail
                  all_goals first | exact hP | rfl
                case hst => exact fun h h' e => rfl
              apply And.intro
              · apply ob_want
                case hg => rfl
                case hj => rfl
                case hv => exact fun _ => rfl
                case hop =>
                  intro ax wx h k hlo hhi hP hk K hK
                  have e7 := hk.see 7 rfl rfl
                  clear hk
                  go_wp2_with fail
                  all_goals first | exact hP | rfl
                case hst => exact fun h h' e => rfl
              apply And.intro
              · apply ob_want
                case hg => rfl
                case hj => rfl
                case hv => exact fun _ => rfl
                case hop =>
                  intro ax wx h k hlo hhi hP hk K hK
                  have e31 := hk.see 31 rfl rfl
                  have e32 := hk.see 32 rfl rfl
                  clear hk
                  obtain rfl := hP.eq
                  go_wp2_with fail
                  all_goals first | exact hP | rfl
                case hst => exact fun h h' e => rfl
              apply And.intro
              · apply ob_want
                case hg => rfl
                case hj => rfl
                case hv => exact fun _ => rfl
                case hop =>
                  intro ax wx h k hlo hhi hP hk K hK
                  have e33 := hk.see 33 rfl rfl
                  clear hk
                  obtain rfl := hP.eq
                  go_wp2_with fail
                  all_goals first | exact hP | rfl
                case hst => exact fun h h' e => rfl
              apply And.intro
              · apply ob_want
                case hg => rfl
                case hj => rfl
                case hv => exact fun _ => rfl
                case hop =>
                  intro ax wx h k hlo hhi hP hk K hK
                  have e34 := hk.see 34 rfl rfl
                  clear hk
                  obtain rfl := hP.eq
                  go_wp2_with fail
                  all_goals first | exact hP | rfl
                case hst => exact fun h h' e => rfl
              apply And.intro
              · apply ob_want
                case hg => rfl
                case hj => rfl
                case hv => exact fun _ => rfl
                case hop =>
                  intro ax wx h k hlo hhi hP hk K hK
                  have e1 := hk.see 1 rfl rfl
                  clear hk
                  go_wp2_with fail
                  all_goals first | exact hP | rfl
                case hst => exact fun h h' e => rfl
              apply And.intro
              · apply ob_want
                case hg => rfl
                case hj => rfl
                case hv => exact fun _ => rfl
                case hop =>
                  intro ax wx h k hlo hhi hP hk K hK
                  have e7 := hk.see 7 rfl rfl
                  clear hk
                  go_wp2_with fail
                  all_goals first | exact hP | rfl
                case hst => exact fun h h' e => rfl
              apply And.intro
              · apply ob_want
                case hg => rfl
                case hj => rfl
                case hv => exact fun _ => rfl
                case hop =>
                  intro ax wx h k hlo hhi hP hk K hK
                  have e36 := hk.see 36 rfl rfl
                  have e37 := hk.see 37 rfl rfl
                  clear hk
                  obtain rfl := hP.eq
                  go_wp2_with fail
                  all_goals first | exact hP | rfl
                case hst => exact fun h h' e => rfl
              apply And.intro
              · apply ob_want
                case hg => rfl
                case hj => rfl
                case hv => exact fun _ => rfl
                case hop =>
                  intro ax wx h k hlo hhi hP hk K hK
                  have e38 := hk.see 38 rfl rfl
                  clear hk
                  obtain rfl := hP.eq
                  go_wp2_with fail
                  all_goals first | exact hP | rfl
                case hst => exact fun h h' e => rfl
              apply And.intro
              · apply ob_want
                case hg => rfl
                case hj => rfl
                case hv => exact fun _ => rfl
                case hop =>
                  intro ax wx h k hlo hhi hP hk K hK
                  have e39 := hk.see 39 rfl rfl
                  clear hk
                  obtain rfl := hP.eq
                  go_wp2_with fail
                  all_goals first | exact hP | rfl
                case hst => exact fun h h' e => rfl
              apply And.intro
              · apply ob_want
                case hg => rfl
                case hj => rfl
                case hv => exact fun _ => rfl
                case hop =>
                  intro ax wx h k hlo hhi hP hk K hK
                  have e35 := hk.see 35 rfl rfl
                  have e40 := hk.see 40 rfl rfl
                  clear hk
                  obtain rfl := hP.eq
                  go_wp2_with fail
                  all_goals first | exact hP | rfl
                case hst => exact fun h h' e => rfl
              apply And.intro
              · apply ob_quiet
                case hg => rfl
                case hop =>
                  intro ax wx h k hlo hhi hP hk K hK
                  have e30 := hk.see 30 rfl rfl
                  have e41 := hk.see 41 rfl rfl
                  clear hk
                  obtain rfl := hP.eq
                  go_wp2_with fail
                  all_goals first | exact hP | rfl
                case hst => exact fun h h' e => rfl
              apply And.intro
              · apply ob_quiet
                case hg => rfl
                case hop =>
                  intro ax wx h k hlo hhi hP hk K hK
                  have e42 := hk.see 42 rfl rfl
                  clear hk
                  go_wp2_with fail
                  all_goals first | exact hP | rfl
                case hst => exact fun h h' e => rfl
              apply And.intro
              · apply ob_want
                case hg => rfl
                case hj => rfl
                case hv => exact fun _ => rfl
                case hop =>
                  intro ax wx h k hlo hhi hP hk K hK
                  have e0 := hk.see 0 rfl rfl
                  clear hk
                  go_wp2_with fail
                  all_goals first | exact hP | rfl
                case hst => exact fun h h' e => rfl
              apply And.intro
              · apply ob_want
                case hg => rfl
                case hj => rfl
                case hv => exact fun _ => rfl
                case hop =>
                  intro ax wx h k hlo hhi hP hk K hK
                  have e7 := hk.see 7 rfl rfl
                  clear hk
                  go_wp2_with fail
                  all_goals first | exact hP | rfl
                case hst => exact fun h h' e => rfl
              apply And.intro
              · apply ob_want
                case hg => rfl
                case hj => rfl
                case hv => exact fun _ => rfl
                case hop =>
                  intro ax wx h k hlo hhi hP hk K hK
                  have e44 := hk.see 44 rfl rfl
                  have e45 := hk.see 45 rfl rfl
                  clear hk
                  obtain rfl := hP.eq
                  go_wp2_with fail
                  all_goals first | exact hP | rfl
                case hst => exact fun h h' e => rfl
              apply And.intro
              · apply ob_want
                case hg => rfl
                case hj => rfl
                case hv => exact fun _ => rfl
                case hop =>
                  intro ax wx h k hlo hhi hP hk K hK
                  have e46 := hk.see 46 rfl rfl
                  clear hk
                  obtain rfl := hP.eq
                  go_wp2_with fail
                  all_goals first | exact hP | rfl
                case hst => exact fun h h' e => rfl
              apply And.intro
              · apply ob_want
                case hg => rfl
                case hj => rfl
                case hv => exact fun _ => rfl
                case hop =>
                  intro ax wx h k hlo hhi hP hk K hK
                  have e47 := hk.see 47 rfl rfl
                  clear hk
                  obtain rfl := hP.eq
                  go_wp2_with fail
                  all_goals first | exact hP | rfl
                case hst => exact fun h h' e => rfl
              apply And.intro
              · apply ob_want
                case hg => rfl
                case hj => rfl
                case hv => exact fun _ => rfl
                case hop =>
                  intro ax wx h k hlo hhi hP hk K hK
                  have e1 := hk.see 1 rfl rfl
                  clear hk
                  go_wp2_with fail
                  all_goals first | exact hP | rfl
                case hst => exact fun h h' e => rfl
              apply And.intro
              · apply ob_want
                case hg => rfl
                case hj => rfl
                case hv => exact fun _ => rfl
                case hop =>
                  intro ax wx h k hlo hhi hP hk K hK
                  have e7 := hk.see 7 rfl rfl
                  clear hk
                  go_wp2_with fail
                  all_goals first | exact hP | rfl
                case hst => exact fun h h' e => rfl
              apply And.intro
              · apply ob_want
                case hg => rfl
                case hj => rfl
                case hv => exact fun _ => rfl
                case hop =>
                  intro ax wx h k hlo hhi hP hk K hK
                  have e49 := hk.see 49 rfl rfl
                  have e50 := hk.see 50 rfl rfl
                  clear hk
                  obtain rfl := hP.eq
                  go_wp2_with fail
                  all_goals first | exact hP | rfl
                case hst => exact fun h h' e => rfl
              apply And.intro
              · apply ob_want
                case hg => rfl
                case hj => rfl
                case hv => exact fun _ => rfl
                case hop =>
                  intro ax wx h k hlo hhi hP hk K hK
                  have e51 := hk.see 51 rfl rfl
                  clear hk
                  obtain rfl := hP.eq
                  go_wp2_with fail
                  all_goals first | exact hP | rfl
                case hst => exact fun h h' e => rfl
              apply And.intro
              · apply ob_want
                case hg => rfl
                case hj => rfl
                case hv => exact fun _ => rfl
                case hop =>
                  intro ax wx h k hlo hhi hP hk K hK
                  have e52 := hk.see 52 rfl rfl
                  clear hk
                  obtain rfl := hP.eq
                  go_wp2_with fail
                  all_goals first | exact hP | rfl
                case hst => exact fun h h' e => rfl
              apply And.intro
              · apply ob_want
                case hg => rfl
                case hj => rfl
                case hv => exact fun _ => rfl
                case hop =>
                  intro ax wx h k hlo hhi hP hk K hK
                  have e48 := hk.see 48 rfl rfl
                  have e53 := hk.see 53 rfl rfl
                  clear hk
                  obtain rfl := hP.eq
                  go_wp2_with fail
                  all_goals first | exact hP | rfl
                case hst => exact fun h h' e => rfl
              apply And.intro
              · apply ob_quiet
                case hg => rfl
                case hop =>
                  intro ax wx h k hlo hhi hP hk K hK
                  have e43 := hk.see 43 rfl rfl
                  have e54 := hk.see 54 rfl rfl
                  clear hk
                  obtain rfl := hP.eq
                  go_wp2_with fail
                  all_goals first | exact hP | rfl
                case hst => exact fun h h' e => rfl
              apply And.intro
              · apply ob_quiet
                case hg => rfl
                case hop =>
                  intro ax wx h k hlo hhi hP hk K hK
                  have e55 := hk.see 55 rfl rfl
                  clear hk
                  go_wp2_with fail
                  all_goals first | exact hP | rfl
                case hst => exact fun h h' e => rfl
              apply And.intro
              · apply ob_want
                case hg => rfl
                case hj => rfl
                case hv => exact fun _ => rfl
                case hop =>
                  intro ax wx h k hlo hhi hP hk K hK
                  have e2 := hk.see 2 rfl rfl
                  clear hk
                  go_wp2_with fail
                  all_goals first | exact hP | rfl
                case hst => exact fun h h' e => rfl
              apply And.intro
              · apply ob_want
                case hg => rfl
                case hj => rfl
                case hv => exact fun _ => rfl
                case hop =>
                  intro ax wx h k hlo hhi hP hk K hK
                  have e57 := hk.see 57 rfl rfl
                  clear hk
                  go_wp2_with fail
                  all_goals first | exact hP | rfl
                case hst => exact fun h h' e => rfl
              apply And.intro
              · apply ob_want
                case hg => rfl
                case hj => rfl
                case hv => exact fun _ => rfl
                case hop =>
                  intro ax wx h k hlo hhi hP hk K hK
                  have e0 := hk.see 0 rfl rfl
                  clear hk
                  go_wp2_with fail
                  all_goals first | exact hP | rfl
                case hst => exact fun h h' e => rfl
              apply And.intro
              · apply ob_want
                case hg => rfl
                case hj => rfl
                case hv => exact fun _ => rfl
                case hop =>
                  intro ax wx h k hlo hhi hP hk K hK
                  have e7 := hk.see 7 rfl rfl
                  clear hk
                  go_wp2_with fail
                  all_goals first | exact hP | rfl
                case hst => exact fun h h' e => rfl
              apply And.intro
              · apply ob_want
                case hg => rfl
                case hj => rfl
                case hv => exact fun _ => rfl
                case hop =>
                  intro ax wx h k hlo hhi hP hk K hK
                  have e59 := hk.see 59 rfl rfl
                  have e60 := hk.see 60 rfl rfl
                  clear hk
                  obtain rfl := hP.eq
                  go_wp2_with fail
                  all_goals first | exact hP | rfl
                case hst => exact fun h h' e => rfl
              apply And.intro
              · apply ob_want
                case hg => rfl
                case hj => rfl
                case hv => exact fun _ => rfl
                case hop =>
                  intro ax wx h k hlo hhi hP hk K hK
                  have e61 := hk.see 61 rfl rfl
                  clear hk
                  obtain rfl := hP.eq
                  go_wp2_with fail
                  all_goals first | exact hP | rfl
                case hst => exact fun h h' e => rfl
              apply And.intro
              · apply ob_want
                case hg => rfl
                case hj => rfl
                case hv => exact fun _ => rfl
                case hop =>
                  intro ax wx h k hlo hhi hP hk K hK
                  have e62 := hk.see 62 rfl rfl
                  clear hk
                  obtain rfl := hP.eq
                  go_wp2_with fail
                  all_goals first | exact hP | rfl
                case hst => exact fun h h' e => rfl
              apply And.intro
              · apply ob_want
                case hg => rfl
                case hj => rfl
                case hv => exact fun _ => rfl
                case hop =>
                  intro ax wx h k hlo hhi hP hk K hK
                  have e1 := hk.see 1 rfl rfl
                  clear hk
                  go_wp2_with fail
                  all_goals first | exact hP | rfl
                case hst => exact fun h h' e => rfl
              apply And.intro
              · apply ob_want
                case hg => rfl
                case hj => rfl
                case hv => exact fun _ => rfl
                case hop =>
                  intro ax wx h k hlo hhi hP hk K hK
                  have e7 := hk.see 7 rfl rfl
                  clear hk
                  go_wp2_with fail
                  all_goals first | exact hP | rfl
                case hst => exact fun h h' e => rfl
              apply And.intro
              · apply ob_want
                case hg => rfl
                case hj => rfl
                case hv => exact fun _ => rfl
                case hop =>
                  intro ax wx h k hlo hhi hP hk K hK
                  have e64 := hk.see 64 rfl rfl
                  have e65 := hk.see 65 rfl rfl
                  clear hk
                  obtain rfl := hP.eq
                  go_wp2_with fail
                  all_goals first | exact hP | rfl
                case hst => exact fun h h' e => rfl
              apply And.intro
              · apply ob_want
                case hg => rfl
                case hj => rfl
                case hv => exact fun _ => rfl
                case hop =>
                  intro ax wx h k hlo hhi hP hk K hK
                  have e66 := hk.see 66 rfl rfl
                  clear hk
                  obtain rfl := hP.eq
                  go_wp2_with fail
                  all_goals first | exact hP | rfl
                case hst => exact fun h h' e => rfl
              apply And.intro
              · apply ob_want
                case hg => rfl
                case hj => rfl
                case hv => exact fun _ => rfl
                case hop =>
                  intro ax wx h k hlo hhi hP hk K hK
                  have e67 := hk.see 67 rfl rfl
                  clear hk
                  obtain rfl := hP.eq
                  go_wp2_with fail
                  all_goals first | exact hP | rfl
                case hst => exact fun h h' e => rfl
              apply And.intro
              · apply ob_want
                case hg => rfl
                case hj => rfl
                case hv => exact fun _ => rfl
                case hop =>
                  intro ax wx h k hlo hhi hP hk K hK
                  have e63 := hk.see 63 rfl rfl
                  have e68 := hk.see 68 rfl rfl
                  clear hk
                  obtain rfl := hP.eq
                  go_wp2_with fail
                  all_goals first | exact hP | rfl
                case hst => exact fun h h' e => rfl
              apply And.intro
              · apply ob_want
                case hg => rfl
                case hj => rfl
                case hv => exact fun _ => rfl
                case hop =>
                  intro ax wx h k hlo hhi hP hk K hK
                  have e58 := hk.see 58 rfl rfl
                  have e69 := hk.see 69 rfl rfl
                  clear hk
                  obtain rfl := hP.eq
                  go_wp2_with fail
                  all_goals first | exact hP | rfl
                case hst => exact fun h h' e => rfl
              apply And.intro
              · apply ob_quiet
                case hg => rfl
                case hop =>
                  intro ax wx h k hlo hhi hP hk K hK
                  have e56 := hk.see 56 rfl rfl
                  have e70 := hk.see 70 rfl rfl
                  clear hk
                  obtain rfl := hP.eq
                  go_wp2_with fail
                  all_goals first | exact hP | rfl
                case hst => exact fun h h' e => rfl
              exact trivial
            intro w' a' h hP HF
            obtain rfl := hP.eq
            exact HQ.out a' (by rw [HE.out]; exact HF.keep [0, 1, 2, 6, 7, 71])
          · have HE := Lib.hid (show tokEq true (⟨pk, pt, pn⟩, pa) (⟨qk, qt, qn⟩, qa) = false by rw [HTE.out]; simp [h4])
            have h4' : ((pa : Int) == qa) = false := by simp; omega
            have h4'' : ((pa : Int) != qa) = true := by rw [bne, h4']; rfl
            clear h2 h2' h4
            subst h1 h3
            apply sl_flow5 (N := 0) [some 19, some 20, some 21, some 22, some 23, some 24, some 25, some 26, some 27, some 28, some 29, some 30, some 31, some 32, some 33, some 34, some 35, some 36, some 37, some 38, some 39, some 40, some 41, some 42, some 43, some 44, some 45, some 46, some 47, some 48, some 49, some 50, some 51, some 52, some 53, some 54, some 55, some 56, some 57, some 58, some 59, some 60, some 61, some 62, some 63, some 64, some 65, some 66, some 67, some 68, some 69, some 70, some 71] [.quiet 0 0, .quiet 0 0, .quiet 0 0, .quiet 0 0, .quiet 0 0, .quiet 0 0, .quiet 0 0, .quiet 0 0, .quiet 0 0, .quiet 0 0, .quiet 0 0, .quiet 0 0, .quiet 0 0, .quiet 0 0, .quiet 0 0, .quiet 0 0, .quiet 0 0, .quiet 0 0, .quiet 0 0, .quiet 0 0, .quiet 0 0, .quiet 0 0, .quiet 0 0, .quiet 0 0, .quiet 0 0, .quiet 0 0, .quiet 0 0, .quiet 0 0, .quiet 0 0, .quiet 0 0, .quiet 0 0, .quiet 0 0, .quiet 0 0, .quiet 0 0, .quiet 0 0, .quiet 0 0, .quiet 0 0, .quiet 0 0, .quiet 0 0, .quiet 0 0, .quiet 0 0, .quiet 0 0, .quiet 0 0, .quiet 0 0, .quiet 0 0, .quiet 0 0, .quiet 0 0, .quiet 0 0, .quiet 0 0, .quiet 0 0, .quiet 0 0, .quiet 0 0, .quiet 0 0] (PhEq w.drew) [_, _, _, _, _, _, _, _, _, _, _, _, _, _, _, _, _, _, _, _, _, _, _, _, _, _, _, _, _, _, _, _, _, _, _, _, _, _, _, _, _, _, _, _, _, _, _, _, _, _, _, _, _] HF
            case hm => kernel_rfl
            case hok => kernel_rfl
            case hfl => rfl
            case h0 => exact (fun _ => ⟨rfl⟩)
            case hobs =>
              apply And.intro
              · apply ob_quiet
                case hg => rfl
                case hop =>
                  intro ax wx h k hlo hhi hP hk K hK
                  have e0 := hk.see 0 rfl rfl
                  clear hk
                  go_wp2_with fail
                  all_goals first | exact hP | rfl
                case hst => exact fun h h' e => rfl
              apply And.intro
              · apply ob_quiet
                case hg => rfl
                case hop =>
                  intro ax wx h k hlo hhi hP hk K hK
                  have e7 := hk.see 7 rfl rfl
                  clear hk
                  go_wp2_with fail
                  all_goals first | exact hP | rfl
                case hst => exact fun h h' e => rfl
              apply And.intro
              · apply ob_quiet
                case hg => rfl
                case hop =>
                  intro ax wx h k hlo hhi hP hk K hK
                  have e19 := hk.see 19 rfl rfl
                  have e20 := hk.see 20 rfl rfl
                  clear hk
                  obtain rfl := hP.eq
                  go_wp2_with fail
                  all_goals first | exact hP | rfl
                case hst => exact fun h h' e => rfl
              apply And.intro
              · apply ob_quiet
                case hg => rfl
                case hop =>
                  intro ax wx h k hlo hhi hP hk K hK
                  have e21 := hk.see 21 rfl rfl
                  clear hk
                  obtain rfl := hP.eq
                  go_wp2_with fail
                  all_goals first | exact hP | rfl
                case hst => exact fun h h' e => rfl
              apply And.intro
              · apply ob_quiet
                case hg => rfl
                case hop =>
                  intro ax wx h k hlo hhi hP hk K hK
                  have e22 := hk.see 22 rfl rfl
                  clear hk
                  obtain rfl := hP.eq
                  go_wp2_with fail
                  all_goals first | exact hP | rfl
                case hst => exact fun h h' e => rfl
              apply And.intro
              · apply ob_quiet
                case hg => rfl
                case hop =>
                  intro ax wx h k hlo hhi hP hk K hK
                  have e1 := hk.see 1 rfl rfl
                  clear hk
                  go_wp2_with fail
                  all_goals first | exact hP | rfl
                case hst => exact fun h h' e => rfl
              apply And.intro
              · apply ob_quiet
                case hg => rfl
                case hop =>
                  intro ax wx h k hlo hhi hP hk K hK
                  have e7 := hk.see 7 rfl rfl
                  clear hk
                  go_wp2_with fail
                  all_goals first | exact hP | rfl
                case hst => exact fun h h' e => rfl
              apply And.intro
              · apply ob_quiet
                case hg => rfl
                case hop =>
                  intro ax wx h k hlo hhi hP hk K hK
                  have e24 := hk.see 24 rfl rfl
                  have e25 := hk.see 25 rfl rfl
                  clear hk
                  obtain rfl := hP.eq
                  go_wp2_with fail
                  all_goals first | exact hP | rfl
                case hst => exact fun h h' e => rfl
              apply And.intro
              · apply ob_quiet
                case hg => rfl
                case hop =>
                  intro ax wx h k hlo hhi hP hk K hK
                  have e26 := hk.see 26 rfl rfl
                  clear hk
                  obtain rfl := hP.eq
                  go_wp2_with fail
                  all_goals first | exact hP | rfl
                case hst => exact fun h h' e => rfl
              apply And.intro
              · apply ob_quiet
                case hg => rfl
                case hop =>
                  intro ax wx h k hlo hhi hP hk K hK
                  have e27 := hk.see 27 rfl rfl
                  clear hk
                  obtain rfl := hP.eq
                  go_wp2_with fail
                  all_goals first | exact hP | rfl
                case hst => exact fun h h' e => rfl
              apply And.intro
              · apply ob_quiet
                case hg => rfl
                case hop =>
                  intro ax wx h k hlo hhi hP hk K hK
                  have e23 := hk.see 23 rfl rfl
                  have e28 := hk.see 28 rfl rfl
                  clear hk
                  obtain rfl := hP.eq
                  go_wp2_with fail
                  all_goals first | exact hP | rfl
                case hst => exact fun h h' e => rfl
              apply And.intro
              · apply ob_quiet
                case hg => rfl
                case hop =>
                  intro ax wx h k hlo hhi hP hk K hK
                  have e29 := hk.see 29 rfl rfl
                  clear hk
                  go_wp2_with fail
                  all_goals first | exact hP | rfl
                case hst => exact fun h h' e => rfl
              apply And.intro
              · apply ob_want
                case hg => rfl
                case hj => rfl
                case hv => exact fun _ => rfl
                case hop =>
                  intro ax wx h k hlo hhi hP hk K hK
                  have e0 := hk.see 0 rfl rfl
                  clear hk
                  go_wp2_with fail
                  all_goals first | exact hP | rfl
                case hst => exact fun h h' e => rfl
              apply And.intro
              · apply ob_want
                case hg => rfl
                case hj => rfl
                case hv => exact fun _ => rfl
                case hop =>
                  intro ax wx h k hlo hhi hP hk K hK
                  have e7 := hk.see 7 rfl rfl
                  clear hk
                  go_wp2_with fail
                  all_goals first | exact hP | rfl
                case hst => exact fun h h' e => rfl
              apply And.intro
              · apply ob_want
                case hg => rfl
                case hj => rfl
                case hv => exact fun _ => rfl
                case hop =>
                  intro ax wx h k hlo hhi hP hk K hK
                  have e31 := hk.see 31 rfl rfl
                  have e32 := hk.see 32 rfl rfl
                  clear hk
                  obtain rfl := hP.eq
                  go_wp2_with fail
                  all_goals first | exact hP | rfl
                case hst => exact fun h h' e => rfl
              apply And.intro
              · apply ob_want
                case hg => rfl
                case hj => rfl
                case hv => exact fun _ => rfl
                case hop =>
                  intro ax wx h k hlo hhi hP hk K hK
                  have e33 := hk.see 33 rfl rfl
                  clear hk
                  obtain rfl := hP.eq
                  go_wp2_with fail
                  all_goals first | exact hP | rfl
                case hst => exact fun h h' e => rfl
              apply And.intro
              · apply ob_want
                case hg => rfl
                case hj => rfl
                case hv => exact fun _ => rfl
                case hop =>
                  intro ax wx h k hlo hhi hP hk K hK
                  have e34 := hk.see 34 rfl rfl
                  clear hk
                  obtain rfl := hP.eq
                  go_wp2_with fail
                  all_goals first | exact hP | rfl
                case hst => exact fun h h' e => rfl
              apply And.intro
              · apply ob_want
                case hg => rfl
                case hj => rfl
                case hv => exact fun _ => rfl
                case hop =>
                  intro ax wx h k hlo hhi hP hk K hK
                  have e1 := hk.see 1 rfl rfl
                  clear hk
                  go_wp2_with fail
                  all_goals first | exact hP | rfl
                case hst => exact fun h h' e => rfl
              apply And.intro
              · apply ob_want
                case hg => rfl
                case hj => rfl
                case hv => exact fun _ => rfl
                case hop =>
                  intro ax wx h k hlo hhi hP hk K hK
                  have e7 := hk.see 7 rfl rfl
                  clear hk
                  go_wp2_with fail
                  all_goals first | exact hP | rfl
                case hst => exact fun h h' e => rfl
              apply And.intro
              · apply ob_want
                case hg => rfl
                case hj => rfl
                case hv => exact fun _ => rfl
                case hop =>
                  intro ax wx h k hlo hhi hP hk K hK
                  have e36 := hk.see 36 rfl rfl
                  have e37 := hk.see 37 rfl rfl
                  clear hk
                  obtain rfl := hP.eq
                  go_wp2_with fail
                  all_goals first | exact hP | rfl
                case hst => exact fun h h' e => rfl
              apply And.intro
              · apply ob_want
                case hg => rfl
                case hj => rfl
                case hv => exact fun _ => rfl
                case hop =>
                  intro ax wx h k hlo hhi hP hk K hK
                  have e38 := hk.see 38 rfl rfl
                  clear hk
                  obtain rfl := hP.eq
                  go_wp2_with fail
                  all_goals first | exact hP | rfl
                case hst => exact fun h h' e => rfl
              apply And.intro
              · apply ob_want
                case hg => rfl
                case hj => rfl
                case hv => exact fun _ => rfl
                case hop =>
                  intro ax wx h k hlo hhi hP hk K hK
                  have e39 := hk.see 39 rfl rfl
                  clear hk
                  obtain rfl := hP.eq
                  go_wp2_with fail
                  all_goals first | exact hP | rfl
                case hst => exact fun h h' e => rfl
              apply And.intro
              · apply ob_want
                case hg => rfl
                case hj => rfl
                case hv => exact fun _ => rfl
                case hop =>
                  intro ax wx h k hlo hhi hP hk K hK
                  have e35 := hk.see 35 rfl rfl
                  have e40 := hk.see 40 rfl rfl
                  clear hk
                  obtain rfl := hP.eq
                  go_wp2_with fail
                  all_goals first | exact hP | rfl
                case hst => exact fun h h' e => rfl
              apply And.intro
              · apply ob_quiet
                case hg => rfl
                case hop =>
                  intro ax wx h k hlo hhi hP hk K hK
                  have e30 := hk.see 30 rfl rfl
                  have e41 := hk.see 41 rfl rfl
                  clear hk
                  obtain rfl := hP.eq
                  go_wp2_with fail
                  all_goals first | exact hP | rfl
                case hst => exact fun h h' e => rfl
              apply And.intro
              · apply ob_quiet
                case hg => rfl
                case hop =>
                  intro ax wx h k hlo hhi hP hk K hK
                  have e42 := hk.see 42 rfl rfl
                  clear hk
                  go_wp2_with fail
                  all_goals first | exact hP | rfl
                case hst => exact fun h h' e => rfl
              apply And.intro
              · apply ob_want
                case hg => rfl
                case hj => rfl
                case hv => exact fun _ => rfl
                case hop =>
                  intro ax wx h k hlo hhi hP hk K hK
                  have e0 := hk.see 0 rfl rfl
                  clear hk
                  go_wp2_with fail
                  all_goals first | exact hP | rfl
                case hst => exact fun h h' e => rfl
              apply And.intro
              · apply ob_want
                case hg => rfl
                case hj => rfl
                case hv => exact fun _ => rfl
                case hop =>
                  intro ax wx h k hlo hhi hP hk K hK
                  have e7 := hk.see 7 rfl rfl
                  clear hk
                  go_wp2_with fail
                  all_goals first | exact hP | rfl
                case hst => exact fun h h' e => rfl
              apply And.intro
              · apply ob_want
                case hg => rfl
                case hj => rfl
                case hv => exact fun _ => rfl
                case hop =>
                  intro ax wx h k hlo hhi hP hk K hK
                  have e44 := hk.see 44 rfl rfl
                  have e45 := hk.see 45 rfl rfl
                  clear hk
                  obtain rfl := hP.eq
                  go_wp2_with fail
                  all_goals first | exact hP | rfl
                case hst => exact fun h h' e => rfl
              apply And.intro
              · apply ob_want
                case hg => rfl
                case hj => rfl
                case hv => exact fun _ => rfl
                case hop =>
                  intro ax wx h k hlo hhi hP hk K hK
                  have e46 := hk.see 46 rfl rfl
                  clear hk
                  obtain rfl := hP.eq
                  go_wp2_with fail
                  all_goals first | exact hP | rfl
                case hst => exact fun h h' e => rfl
              apply And.intro
              · apply ob_want
                case hg => rfl
                case hj => rfl
                case hv => exact fun _ => rfl
                case hop =>
                  intro ax wx h k hlo hhi hP hk K hK
                  have e47 := hk.see 47 rfl rfl
                  clear hk
                  obtain rfl := hP.eq
                  go_wp2_with fail
                  all_goals first | exact hP | rfl
                case hst => exact fun h h' e => rfl
              apply And.intro
              · apply ob_want
                case hg => rfl
                case hj => rfl
                case hv => exact fun _ => rfl
                case hop =>
                  intro ax wx h k hlo hhi hP hk K hK
                  have e1 := hk.see 1 rfl rfl
                  clear hk
                  go_wp2_with fail
                  all_goals first | exact hP | rfl
                case hst => exact fun h h' e => rfl
              apply And.intro
              · apply ob_want
                case hg => rfl
                case hj => rfl
                case hv => exact fun _ => rfl
                case hop =>
                  intro ax wx h k hlo hhi hP hk K hK
                  have e7 := hk.see 7 rfl rfl
                  clear hk
                  go_wp2_with fail
                  all_goals first | exact hP | rfl
                case hst => exact fun h h' e => rfl
              apply And.intro
              · apply ob_want
                case hg => rfl
                case hj => rfl
                case hv => exact fun _ => rfl
                case hop =>
                  intro ax wx h k hlo hhi hP hk K hK
                  have e49 := hk.see 49 rfl rfl
                  have e50 := hk.see 50 rfl rfl
                  clear hk
                  obtain rfl := hP.eq
                  go_wp2_with fail
                  all_goals first | exact hP | rfl
                case hst => exact fun h h' e => rfl
              apply And.intro
              · apply ob_want
                case hg => rfl
                case hj => rfl
                case hv => exact fun _ => rfl
                case hop =>
                  intro ax wx h k hlo hhi hP hk K hK
                  have e51 := hk.see 51 rfl rfl
                  clear hk
                  obtain rfl := hP.eq
                  go_wp2_with fail
                  all_goals first | exact hP | rfl
                case hst => exact fun h h' e => rfl
              apply And.intro
              · apply ob_want
                case hg => rfl
                case hj => rfl
                case hv => exact fun _ => rfl
                case hop =>
                  intro ax wx h k hlo hhi hP hk K hK
                  have e52 := hk.see 52 rfl rfl
                  clear hk
                  obtain rfl := hP.eq
                  go_wp2_with fail
                  all_goals first | exact hP | rfl
                case hst => exact fun h h' e => rfl
              apply And.intro
              · apply ob_want
                case hg => rfl
                case hj => rfl
                case hv => exact fun _ => rfl
                case hop =>
                  intro ax wx h k hlo hhi hP hk K hK
                  have e48 := hk.see 48 rfl rfl
                  have e53 := hk.see 53 rfl rfl
                  clear hk
                  obtain rfl := hP.eq
                  go_wp2_with fail
                  all_goals first | exact hP | rfl
                case hst => exact fun h h' e => rfl
              apply And.intro
              · apply ob_quiet
                case hg => rfl
                case hop =>
                  intro ax wx h k hlo hhi hP hk K hK
                  have e43 := hk.see 43 rfl rfl
                  have e54 := hk.see 54 rfl rfl
                  clear hk
                  obtain rfl := hP.eq
                  go_wp2_with fail
                  all_goals first | exact hP | rfl
                case hst => exact fun h h' e => rfl
              apply And.intro
              · apply ob_quiet
                case hg => rfl
                case hop =>
                  intro ax wx h k hlo hhi hP hk K hK
                  have e55 := hk.see 55 rfl rfl
                  clear hk
                  go_wp2_with fail
                  all_goals first | exact hP | rfl
                case hst => exact fun h h' e => rfl
              apply And.intro
              · apply ob_want
                case hg => rfl
                case hj => rfl
                case hv => exact fun _ => rfl
                case hop =>
                  intro ax wx h k hlo hhi hP hk K hK
                  have e2 := hk.see 2 rfl rfl
                  clear hk
                  go_wp2_with fail
                  all_goals first | exact hP | rfl
                case hst => exact fun h h' e => rfl
              apply And.intro
              · apply ob_want
                case hg => rfl
                case hj => rfl
                case hv => exact fun _ => rfl
                case hop =>
                  intro ax wx h k hlo hhi hP hk K hK
                  have e57 := hk.see 57 rfl rfl
                  clear hk
                  go_wp2_with fail
                  all_goals first | exact hP | rfl
                case hst => exact fun h h' e => rfl
              apply And.intro
              · apply ob_want
                case hg => rfl
                case hj => rfl
                case hv => exact fun _ => rfl
                case hop =>
                  intro ax wx h k hlo hhi hP hk K hK
                  have e0 := hk.see 0 rfl rfl
                  clear hk
                  go_wp2_with fail
                  all_goals first | exact hP | rfl
                case hst => exact fun h h' e => rfl
              apply And.intro
              · apply ob_want
                case hg => rfl
                case hj => rfl
                case hv => exact fun _ => rfl
                case hop =>
                  intro ax wx h k hlo hhi hP hk K hK
                  have e7 := hk.see 7 rfl rfl
                  clear hk
                  go_wp2_with fail
                  all_goals first | exact hP | rfl
                case hst => exact fun h h' e => rfl
              apply And.intro
              · apply ob_want
                case hg => rfl
                case hj => rfl
                case hv => exact fun _ => rfl
                case hop =>
                  intro ax wx h k hlo hhi hP hk K hK
                  have e59 := hk.see 59 rfl rfl
                  have e60 := hk.see 60 rfl rfl
                  clear hk
                  obtain rfl := hP.eq
                  go_wp2_with fail
                  all_goals first | exact hP | rfl
                case hst => exact fun h h' e => rfl
              apply And.intro
              · apply ob_want
                case hg => rfl
                case hj => rfl
                case hv => exact fun _ => rfl
                case hop =>
                  intro ax wx h k hlo hhi hP hk K hK
                  have e61 := hk.see 61 rfl rfl
                  clear hk
                  obtain rfl := hP.eq
                  go_wp2_with fail
                  all_goals first | exact hP | rfl
                case hst => exact fun h h' e => rfl
              apply And.intro
              · apply ob_want
                case hg => rfl
                case hj => rfl
                case hv => exact fun _ => rfl
                case hop =>
                  intro ax wx h k hlo hhi hP hk K hK
                  have e62 := hk.see 62 rfl rfl
                  clear hk
                  obtain rfl := hP.eq
                  go_wp2_with fail
                  all_goals first | exact hP | rfl
                case hst => exact fun h h' e => rfl
              apply And.intro
              · apply ob_want
                case hg => rfl
                case hj => rfl
                case hv => exact fun _ => rfl
                case hop =>
                  intro ax wx h k hlo hhi hP hk K hK
                  have e1 := hk.see 1 rfl rfl
                  clear hk
                  go_wp2_with fail
                  all_goals first | exact hP | rfl
                case hst => exact fun h h' e => rfl
              apply And.intro
              · apply ob_want
                case hg => rfl
                case hj => rfl
                case hv => exact fun _ => rfl
                case hop =>
                  intro ax wx h k hlo hhi hP hk K hK
                  have e7 := hk.see 7 rfl rfl
                  clear hk
                  go_wp2_with fail
                  all_goals first | exact hP | rfl
                case hst => exact fun h h' e => rfl
              apply And.intro
              · apply ob_want
                case hg => rfl
                case hj => rfl
                case hv => exact fun _ => rfl
                case hop =>
                  intro ax wx h k hlo hhi hP hk K hK
                  have e64 := hk.see 64 rfl rfl
                  have e65 := hk.see 65 rfl rfl
                  clear hk
                  obtain rfl := hP.eq
                  go_wp2_with fail
                  all_goals first | exact hP | rfl
                case hst => exact fun h h' e => rfl
              apply And.intro
              · apply ob_want
                case hg => rfl
                case hj => rfl
                case hv => exact fun _ => rfl
                case hop =>
                  intro ax wx h k hlo hhi hP hk K hK
                  have e66 := hk.see 66 rfl rfl
                  clear hk
                  obtain rfl := hP.eq
                  go_wp2_with fail
                  all_goals first | exact hP | rfl
                case hst => exact fun h h' e => rfl
              apply And.intro
              · apply ob_want
                case hg => rfl
                case hj => rfl
                case hv => exact fun _ => rfl
                case hop =>
                  intro ax wx h k hlo hhi hP hk K hK
                  have e67 := hk.see 67 rfl rfl
                  clear hk
                  obtain rfl := hP.eq
                  go_wp2_with fail
                  all_goals first | exact hP | rfl
                case hst => exact fun h h' e => rfl
              apply And.intro
              · apply ob_want
                case hg => rfl
                case hj => rfl
                case hv => exact fun _ => rfl
                case hop =>
                  intro ax wx h k hlo hhi hP hk K hK
                  have e63 := hk.see 63 rfl rfl
                  have e68 := hk.see 68 rfl rfl
                  clear hk
                  obtain rfl := hP.eq
                  go_wp2_with fail
                  all_goals first | exact hP | rfl
                case hst => exact fun h h' e => rfl
              apply And.intro
              · apply ob_want
                case hg => rfl
                case hj => rfl
                case hv => exact fun _ => rfl
                case hop =>
                  intro ax wx h k hlo hhi hP hk K hK
                  have e58 := hk.see 58 rfl rfl
                  have e69 := hk.see 69 rfl rfl
                  clear hk
                  obtain rfl := hP.eq
                  go_wp2_with fail
                  all_goals first | exact hP | rfl
                case hst => exact fun h h' e => rfl
              apply And.intro
              · apply ob_quiet
                case hg => rfl
                case hop =>
                  intro ax wx h k hlo hhi hP hk K hK
                  have e56 := hk.see 56 rfl rfl
                  have e70 := hk.see 70 rfl rfl
                  clear hk
                  obtain rfl := hP.eq
                  go_wp2_with fail
                  all_goals first | exact hP | rfl
                case hst => exact fun h h' e => rfl
              exact trivial
            intro w' a' h hP HF
            obtain rfl := hP.eq
            exact HQ.out a' (by rw [HE.out]; exact HF.keep [0, 1, 2, 6, 7, 71])
      · have HE := Lib.hid (show tokEq pl (⟨pk, pt, pn⟩, pa) (⟨qk, qt, qn⟩, qa) = false by rw [HTE.out]; simp [h3])
        have h3' : ((pn : Int) == qn) = false := by simp; omega
        have h3'' : ((pn : Int) != qn) = true := by rw [bne, h3']; rfl
        clear h2 h2' h3
        subst h1
        apply sl_flow5 (N := 0) [some 19, some 20, some 21, some 22, some 23, some 24, some 25, some 26, some 27, some 28, some 29, some 30, some 31, some 32, some 33, some 34, some 35, some 36, some 37, some 38, some 39, some 40, some 41, some 42, some 43, some 44, some 45, some 46, some 47, some 48, some 49, some 50, some 51, some 52, some 53, some 54, some 55, some 56, some 57, some 58, some 59, some 60, some 61, some 62, some 63, some 64, some 65, some 66, some 67, some 68, some 69, some 70, some 71] [.quiet 0 0, .quiet 0 0, .quiet 0 0, .quiet 0 0, .quiet 0 0, .quiet 0 0, .quiet 0 0, .quiet 0 0, .quiet 0 0, .quiet 0 0, .quiet 0 0, .quiet 0 0, .quiet 0 0, .quiet 0 0, .quiet 0 0, .quiet 0 0, .quiet 0 0, .quiet 0 0, .quiet 0 0, .quiet 0 0, .quiet 0 0, .quiet 0 0, .quiet 0 0, .quiet 0 0, .quiet 0 0, .quiet 0 0, .quiet 0 0, .quiet 0 0, .quiet 0 0, .quiet 0 0, .quiet 0 0, .quiet 0 0, .quiet 0 0, .quiet 0 0, .quiet 0 0, .quiet 0 0, .quiet 0 0, .quiet 0 0, .quiet 0 0, .quiet 0 0, .quiet 0 0, .quiet 0 0, .quiet 0 0, .quiet 0 0, .quiet 0 0, .quiet 0 0, .quiet 0 0, .quiet 0 0, .quiet 0 0, .quiet 0 0, .quiet 0 0, .quiet 0 0, .quiet 0 0] (PhEq w.drew) [_, _, _, _, _, _, _, _, _, _, _, _, _, _, _, _, _, _, _, _, _, _, _, _, _, _, _, _, _, _, _, _, _, _, _, _, _, _, (fun _ => undef), (fun _ => undef), (fun _ => undef), (fun _ => undef), (fun _ => undef), (fun _ => undef), (fun _ => undef), (fun _ => undef), (fun _ => undef), (fun _ => undef), (fun _ => undef), (fun _ => undef), (fun _ => undef), (fun _ => undef), _] HF
        case hm => kernel_rfl
        case hok => kernel_rfl
        case hfl => rfl
        case h0 => exact (fun _ => ⟨rfl⟩)
        case hobs =>
          apply And.intro
          · apply ob_quiet
            case hg => rfl
            case hop =>
              intro ax wx h k hlo hhi hP hk K hK
              have e0 := hk.see 0 rfl rfl
              clear hk
              go_wp2_with fail
              all_goals first | exact hP | rfl
            case hst => exact fun h h' e => rfl
          apply And.intro
          · apply ob_quiet
            case hg => rfl
            case hop =>
              intro ax wx h k hlo hhi hP hk K hK
              have e7 := hk.see 7 rfl rfl
              clear hk
              go_wp2_with fail
              all_goals first | exact hP | rfl
            case hst => exact fun h h' e => rfl
          apply And.intro
          · apply ob_quiet
            case hg => rfl
            case hop =>
              intro ax wx h k hlo hhi hP hk K hK
              have e19 := hk.see 19 rfl rfl
              have e20 := hk.see 20 rfl rfl
              clear hk
              obtain rfl := hP.eq
              go_wp2_with fail
              all_goals first | exact hP | rfl
            case hst => exact fun h h' e => rfl
          apply And.intro
          · apply ob_quiet
            case hg => rfl
            case hop =>
              intro ax wx h k hlo hhi hP hk K hK
              have e21 := hk.see 21 rfl rfl
              clear hk
              obtain rfl := hP.eq
              go_wp2_with fail
              all_goals first | exact hP | rfl
            case hst => exact fun h h' e => rfl
          apply And.intro
          · apply ob_quiet
            case hg => rfl
            case hop =>
              intro ax wx h k hlo hhi hP hk K hK
              have e22 := hk.see 22 rfl rfl
              clear hk
              obtain rfl := hP.eq
              go_wp2_with fail
              all_goals first | exact hP | rfl
            case hst => exact fun h h' e => rfl
          apply And.intro
          · apply ob_quiet
            case hg => rfl
            case hop =>
              intro ax wx h k hlo hhi hP hk K hK
              have e1 := hk.see 1 rfl rfl
              clear hk
              go_wp2_with fail
              all_goals first | exact hP | rfl
            case hst => exact fun h h' e => rfl
          apply And.intro
          · apply ob_quiet
            case hg => rfl
            case hop =>
              intro ax wx h k hlo hhi hP hk K hK
              have e7 := hk.see 7 rfl rfl
              clear hk
              go_wp2_with fail
              all_goals first | exact hP | rfl
            case hst => exact fun h h' e => rfl
          apply And.intro
          · apply ob_quiet
            case hg => rfl
            case hop =>
              intro ax wx h k hlo hhi hP hk K hK
              have e24 := hk.see 24 rfl rfl
              have e25 := hk.see 25 rfl rfl
              clear hk
              obtain rfl := hP.eq
              go_wp2_with fail
              all_goals first | exact hP | rfl
            case hst => exact fun h h' e => rfl
          apply And.intro
          · apply ob_quiet
            case hg => rfl
            case hop =>
              intro ax wx h k hlo hhi hP hk K hK
              have e26 := hk.see 26 rfl rfl
              clear hk
              obtain rfl := hP.eq
              go_wp2_with fail
              all_goals first | exact hP | rfl
            case hst => exact fun h h' e => rfl
          apply And.intro
          · apply ob_quiet
            case hg => rfl
            case hop =>
              intro ax wx h k hlo hhi hP hk K hK
              have e27 := hk.see 27 rfl rfl
              clear hk
              obtain rfl := hP.eq
              go_wp2_with fail
              all_goals first | exact hP | rfl
            case hst => exact fun h h' e => rfl
          apply And.intro
          · apply ob_quiet
            case hg => rfl
            case hop =>
              intro ax wx h k hlo hhi hP hk K hK
              have e23 := hk.see 23 rfl rfl
              have e28 := hk.see 28 rfl rfl
              clear hk
              obtain rfl := hP.eq
              go_wp2_with fail
              all_goals first | exact hP | rfl
            case hst => exact fun h h' e => rfl
          apply And.intro
          · apply ob_quiet
            case hg => rfl
            case hop =>
              intro ax wx h k hlo hhi hP hk K hK
              have e29 := hk.see 29 rfl rfl
              clear hk
              go_wp2_with fail
              all_goals first | exact hP | rfl
            case hst => exact fun h h' e => rfl
          apply And.intro
          · apply ob_want
            case hg => rfl
            case hj => rfl
            case hv => exact fun _ => rfl
            case hop =>
              intro ax wx h k hlo hhi hP hk K hK
              have e0 := hk.see 0 rfl rfl
              clear hk
              go_wp2_with fail
              all_goals first | exact hP | rfl
            case hst => exact fun h h' e => rfl
          apply And.intro
          · apply ob_want
            case hg => rfl
            case hj => rfl
            case hv => exact fun _ => rfl
            case hop =>
              intro ax wx h k hlo hhi hP hk K hK
              have e7 := hk.see 7 rfl rfl
              clear hk
              go_wp2_with fail
              all_goals first | exact hP | rfl
            case hst => exact fun h h' e => rfl
          apply And.intro
          · apply ob_want
            case hg => rfl
            case hj => rfl
            case hv => exact fun _ => rfl
            case hop =>
              intro ax wx h k hlo hhi hP hk K hK
              have e31 := hk.see 31 rfl rfl
              have e32 := hk.see 32 rfl rfl
              clear hk
              obtain rfl := hP.eq
              go_wp2_with fail
              all_goals first | exact hP | rfl
            case hst => exact fun h h' e => rfl
          apply And.intro
          · apply ob_want
            case hg => rfl
            case hj => rfl
            case hv => exact fun _ => rfl
            case hop =>
              intro ax wx h k hlo hhi hP hk K hK
              have e33 := hk.see 33 rfl rfl
              clear hk
              obtain rfl := hP.eq
              go_wp2_with fail
              all_goals first | exact hP | rfl
            case hst => exact fun h h' e => rfl
          apply And.intro
          · apply ob_want
            case hg => rfl
            case hj => rfl
            case hv => exact fun _ => rfl
            case hop =>
              intro ax wx h k hlo hhi hP hk K hK
              have e34 := hk.see 34 rfl rfl
              clear hk
              obtain rfl := hP.eq
              go_wp2_with fail
              all_goals first | exact hP | rfl
            case hst => exact fun h h' e => rfl
          apply And.intro
          · apply ob_want
            case hg => rfl
            case hj => rfl
            case hv => exact fun _ => rfl
            case hop =>
              intro ax wx h k hlo hhi hP hk K hK
              have e1 := hk.see 1 rfl rfl
              clear hk
              go_wp2_with fail
              all_goals first | exact hP | rfl
            case hst => exact fun h h' e => rfl
          apply And.intro
          · apply ob_want
            case hg => rfl
            case hj => rfl
            case hv => exact fun _ => rfl
            case hop =>
              intro ax wx h k hlo hhi hP hk K hK
              have e7 := hk.see 7 rfl rfl
              clear hk
              go_wp2_with fail
              all_goals first | exact hP | rfl
            case hst => exact fun h h' e => rfl
          apply And.intro
          · apply ob_want
            case hg => rfl
            case hj => rfl
            case hv => exact fun _ => rfl
            case hop =>
              intro ax wx h k hlo hhi hP hk K hK
              have e36 := hk.see 36 rfl rfl
              have e37 := hk.see 37 rfl rfl
              clear hk
              obtain rfl := hP.eq
              go_wp2_with fail
              all_goals first | exact hP | rfl
            case hst => exact fun h h' e => rfl
          apply And.intro
          · apply ob_want
            case hg => rfl
            case hj => rfl
            case hv => exact fun _ => rfl
            case hop =>
              intro ax wx h k hlo hhi hP hk K hK
              have e38 := hk.see 38 rfl rfl
              clear hk
              obtain rfl := hP.eq
              go_wp2_with fail
              all_goals first | exact hP | rfl
            case hst => exact fun h h' e => rfl
          apply And.intro
          · apply ob_want
            case hg => rfl
            case hj => rfl
            case hv => exact fun _ => rfl
            case hop =>
              intro ax wx h k hlo hhi hP hk K hK
              have e39 := hk.see 39 rfl rfl
              clear hk
              obtain rfl := hP.eq
              go_wp2_with fail
              all_goals first | exact hP | rfl
            case hst => exact fun h h' e => rfl
          apply And.intro
          · apply ob_want
            case hg => rfl
            case hj => rfl
            case hv => exact fun _ => rfl
            case hop =>
              intro ax wx h k hlo hhi hP hk K hK
              have e35 := hk.see 35 rfl rfl
              have e40 := hk.see 40 rfl rfl
              clear hk
              obtain rfl := hP.eq
              go_wp2_with fail
              all_goals first | exact hP | rfl
            case hst => exact fun h h' e => rfl
          apply And.intro
          · apply ob_quiet
            case hg => rfl
            case hop =>
              intro ax wx h k hlo hhi hP hk K hK
              have e30 := hk.see 30 rfl rfl
              have e41 := hk.see 41 rfl rfl
              clear hk
              obtain rfl := hP.eq
              go_wp2_with fail
              all_goals first | exact hP | rfl
            case hst => exact fun h h' e => rfl
          apply And.intro
          · apply ob_quiet
            case hg => rfl
            case hop =>
              intro ax wx h k hlo hhi hP hk K hK
              have e42 := hk.see 42 rfl rfl
              clear hk
              go_wp2_with fail
              all_goals first | exact hP | rfl
            case hst => exact fun h h' e => rfl
          apply And.intro
          · apply ob_want
            case hg => rfl
            case hj => rfl
            case hv => exact fun _ => rfl
            case hop =>
              intro ax wx h k hlo hhi hP hk K hK
              have e0 := hk.see 0 rfl rfl
              clear hk
              go_wp2_with fail
              all_goals first | exact hP | rfl
            case hst => exact fun h h' e => rfl
          apply And.intro
          · apply ob_want
            case hg => rfl
            case hj => rfl
            case hv => exact fun _ => rfl
            case hop =>
              intro ax wx h k hlo hhi hP hk K hK
              have e7 := hk.see 7 rfl rfl
              clear hk
              go_wp2_with fail
              all_goals first | exact hP | rfl
            case hst => exact fun h h' e => rfl
          apply And.intro
          · apply ob_want
            case hg => rfl
            case hj => rfl
            case hv => exact fun _ => rfl
            case hop =>
              intro ax wx h k hlo hhi hP hk K hK
              have e44 := hk.see 44 rfl rfl
              have e45 := hk.see 45 rfl rfl
              clear hk
              obtain rfl := hP.eq
              go_wp2_with fail
              all_goals first | exact hP | rfl
            case hst => exact fun h h' e => rfl
          apply And.intro
          · apply ob_want
            case hg => rfl
            case hj => rfl
            case hv => exact fun _ => rfl
            case hop =>
              intro ax wx h k hlo hhi hP hk K hK
              have e46 := hk.see 46 rfl rfl
              clear hk
              obtain rfl := hP.eq
              go_wp2_with fail
              all_goals first | exact hP | rfl
            case hst => exact fun h h' e => rfl
          apply And.intro
          · apply ob_want
            case hg => rfl
            case hj => rfl
            case hv => exact fun _ => rfl
            case hop =>
              intro ax wx h k hlo hhi hP hk K hK
              have e47 := hk.see 47 rfl rfl
              clear hk
              obtain rfl := hP.eq
              go_wp2_with fail
              all_goals first | exact hP | rfl
            case hst => exact fun h h' e => rfl
          apply And.intro
          · apply ob_want
            case hg => rfl
            case hj => rfl
            case hv => exact fun _ => rfl
            case hop =>
              intro ax wx h k hlo hhi hP hk K hK
              have e1 := hk.see 1 rfl rfl
              clear hk
              go_wp2_with fail
              all_goals first | exact hP | rfl
            case hst => exact fun h h' e => rfl
          apply And.intro
          · apply ob_want
            case hg => rfl
            case hj => rfl
            case hv => exact fun _ => rfl
            case hop =>
              intro ax wx h k hlo hhi hP hk K hK
              have e7 := hk.see 7 rfl rfl
              clear hk
              go_wp2_with fail
              all_goals first | exact hP | rfl
            case hst => exact fun h h' e => rfl
          apply And.intro
          · apply ob_want
            case hg => rfl
            case hj => rfl
            case hv => exact fun _ => rfl
            case hop =>
              intro ax wx h k hlo hhi hP hk K hK
              have e49 := hk.see 49 rfl rfl
              have e50 := hk.see 50 rfl rfl
              clear hk
              obtain rfl := hP.eq
              go_wp2_with fail
              all_goals first | exact hP | rfl
            case hst => exact fun h h' e => rfl
          apply And.intro
          · apply ob_want
            case hg => rfl
            case hj => rfl
            case hv => exact fun _ => rfl
            case hop =>
              intro ax wx h k hlo hhi hP hk K hK
              have e51 := hk.see 51 rfl rfl
              clear hk
              obtain rfl := hP.eq
              go_wp2_with fail
              all_goals first | exact hP | rfl
            case hst => exact fun h h' e => rfl
          apply And.intro
          · apply ob_want
            case hg => rfl
            case hj => rfl
            case hv => exact fun _ => rfl
            case hop =>
              intro ax wx h k hlo hhi hP hk K hK
              have e52 := hk.see 52 rfl rfl
              clear hk
              obtain rfl := hP.eq
              go_wp2_with fail
              all_goals first | exact hP | rfl
            case hst => exact fun h h' e => rfl
          apply And.intro
          · apply ob_want
            case hg => rfl
            case hj => rfl
            case hv => exact fun _ => rfl
            case hop =>
              intro ax wx h k hlo hhi hP hk K hK
              have e48 := hk.see 48 rfl rfl
              have e53 := hk.see 53 rfl rfl
              clear hk
              obtain rfl := hP.eq
              go_wp2_with fail
              all_goals first | exact hP | rfl
            case hst => exact fun h h' e => rfl
          apply And.intro
          · apply ob_quiet
            case hg => rfl
            case hop =>
              intro ax wx h k hlo hhi hP hk K hK
              have e43 := hk.see 43 rfl rfl
              have e54 := hk.see 54 rfl rfl
              clear hk
              obtain rfl := hP.eq
              go_wp2_with fail
              all_goals first | exact hP | rfl
            case hst => exact fun h h' e => rfl
          apply And.intro
          · apply ob_quiet
            case hg => rfl
            case hop =>
              intro ax wx h k hlo hhi hP hk K hK
              have e55 := hk.see 55 rfl rfl
              clear hk
              go_wp2_with fail
              all_goals first | exact hP | rfl
            case hst => exact fun h h' e => rfl
          refine And.intro (ob_skip rfl rfl (fun _ => rfl)) ?_
          refine And.intro (ob_skip rfl rfl (fun _ => rfl)) ?_
          refine And.intro (ob_skip_u rfl rfl (fun _ => rfl)) ?_
          refine And.intro (ob_skip_u rfl rfl (fun _ => rfl)) ?_
          refine And.intro (ob_skip_u rfl rfl (fun _ => rfl)) ?_
          refine And.intro (ob_skip_u rfl rfl (fun _ => rfl)) ?_
          refine And.intro (ob_skip_u rfl rfl (fun _ => rfl)) ?_
          refine And.intro (ob_skip_u rfl rfl (fun _ => rfl)) ?_
          refine And.intro (ob_skip_u rfl rfl (fun _ => rfl)) ?_
          refine And.intro (ob_skip_u rfl rfl (fun _ => rfl)) ?_
          refine And.intro (ob_skip_u rfl rfl (fun _ => rfl)) ?_
          refine And.intro (ob_skip_u rfl rfl (fun _ => rfl)) ?_
          refine And.intro (ob_skip_u rfl rfl (fun _ => rfl)) ?_
          refine And.intro (ob_skip rfl rfl (fun _ => rfl)) ?_
          apply And.intro
          · apply ob_quiet
            case hg => rfl
            case hop =>
              intro ax wx h k hlo hhi hP hk K hK
              have e56 := hk.see 56 rfl rfl
              have e70 := hk.see 70 rfl rfl
              clear hk
              obtain rfl := hP.eq
              go_wp2_with fail
              all_goals first | exact hP | rfl
            case hst => exact fun h h' e => rfl
          exact trivial
        intro w' a' h hP HF
        obtain rfl := hP.eq
        exact HQ.out a' (by rw [HE.out]; exact HF.keep [0, 1, 2, 6, 7, 71])
    · have HE := Lib.hid (show tokEq pl (⟨pk, pt, pn⟩, pa) (⟨qk, qt, qn⟩, qa) = false by rw [HTE.out]; simp [h2])
      have h2' : (pt == qt) = false := by simp [h2]
      rw [h2'] at htx
      have htx2 : ((str pt).toList != (str qt).toList) = true := by rw [bne, htx]; rfl
      clear h2 h2'
      subst h1
      apply sl_flow5 (N := 0) [some 19, some 20, some 21, some 22, some 23, some 24, some 25, some 26, some 27, some 28, some 29, some 30, some 31, some 32, some 33, some 34, some 35, some 36, some 37, some 38, some 39, some 40, some 41, some 42, some 43, some 44, some 45, some 46, some 47, some 48, some 49, some 50, some 51, some 52, some 53, some 54, some 55, some 56, some 57, some 58, some 59, some 60, some 61, some 62, some 63, some 64, some 65, some 66, some 67, some 68, some 69, some 70, some 71] [.quiet 0 0, .quiet 0 0, .quiet 0 0, .quiet 0 0, .quiet 0 0, .quiet 0 0, .quiet 0 0, .quiet 0 0, .quiet 0 0, .quiet 0 0, .quiet 0 0, .quiet 0 0, .quiet 0 0, .quiet 0 0, .quiet 0 0, .quiet 0 0, .quiet 0 0, .quiet 0 0, .quiet 0 0, .quiet 0 0, .quiet 0 0, .quiet 0 0, .quiet 0 0, .quiet 0 0, .quiet 0 0, .quiet 0 0, .quiet 0 0, .quiet 0 0, .quiet 0 0, .quiet 0 0, .quiet 0 0, .quiet 0 0, .quiet 0 0, .quiet 0 0, .quiet 0 0, .quiet 0 0, .quiet 0 0, .quiet 0 0, .quiet 0 0, .quiet 0 0, .quiet 0 0, .quiet 0 0, .quiet 0 0, .quiet 0 0, .quiet 0 0, .quiet 0 0, .quiet 0 0, .quiet 0 0, .quiet 0 0, .quiet 0 0, .quiet 0 0, .quiet 0 0, .quiet 0 0] (PhEq w.drew) [_, _, _, _, _, _, _, _, _, _, _, _, _, _, _, _, _, _, _, _, _, _, _, _, _, (fun _ => undef), (fun _ => undef), (fun _ => undef), (fun _ => undef), (fun _ => undef), (fun _ => undef), (fun _ => undef), (fun _ => undef), (fun _ => undef), (fun _ => undef), (fun _ => undef), _, _, (fun _ => undef), (fun _ => undef), (fun _ => undef), (fun _ => undef), (fun _ => undef), (fun _ => undef), (fun _ => undef), (fun _ => undef), (fun _ => undef), (fun _ => undef), (fun _ => undef), (fun _ => undef), (fun _ => undef), (fun _ => undef), _] HF
      case hm => kernel_rfl
      case hok => kernel_rfl
      case hfl => rfl
      case h0 => exact (fun _ => ⟨rfl⟩)
      case hobs =>
        apply And.intro
        · apply ob_quiet
          case hg => rfl
          case hop =>
            intro ax wx h k hlo hhi hP hk K hK
            have e0 := hk.see 0 rfl rfl
            clear hk
            go_wp2_with fail
            all_goals first | exact hP | rfl
          case hst => exact fun h h' e => rfl
        apply And.intro
        · apply ob_quiet
          case hg => rfl
          case hop =>
            intro ax wx h k hlo hhi hP hk K hK
            have e7 := hk.see 7 rfl rfl
            clear hk
            go_wp2_with fail
            all_goals first | exact hP | rfl
          case hst => exact fun h h' e => rfl
        apply And.intro
        · apply ob_quiet
          case hg => rfl
          case hop =>
            intro ax wx h k hlo hhi hP hk K hK
            have e19 := hk.see 19 rfl rfl
            have e20 := hk.see 20 rfl rfl
            clear hk
            obtain rfl := hP.eq
            go_wp2_with fail
            all_goals first | exact hP | rfl
          case hst => exact fun h h' e => rfl
        apply And.intro
        · apply ob_quiet
          case hg => rfl
          case hop =>
            intro ax wx h k hlo hhi hP hk K hK
            have e21 := hk.see 21 rfl rfl
            clear hk
            obtain rfl := hP.eq
            go_wp2_with fail
            all_goals first | exact hP | rfl
          case hst => exact fun h h' e => rfl
        apply And.intro
        · apply ob_quiet
          case hg => rfl
          case hop =>
            intro ax wx h k hlo hhi hP hk K hK
            have e22 := hk.see 22 rfl rfl
            clear hk
            obtain rfl := hP.eq
            go_wp2_with fail
            all_goals first | exact hP | rfl
          case hst => exact fun h h' e => rfl
        apply And.intro
        · apply ob_quiet
          case hg => rfl
          case hop =>
            intro ax wx h k hlo hhi hP hk K hK
            have e1 := hk.see 1 rfl rfl
            clear hk
            go_wp2_with fail
            all_goals first | exact hP | rfl
          case hst => exact fun h h' e => rfl
        apply And.intro
        · apply ob_quiet
          case hg => rfl
          case hop =>
            intro ax wx h k hlo hhi hP hk K hK
            have e7 := hk.see 7 rfl rfl
            clear hk
            go_wp2_with fail
            all_goals first | exact hP | rfl
          case hst => exact fun h h' e => rfl
        apply And.intro
        · apply ob_quiet
          case hg => rfl
          case hop =>
            intro ax wx h k hlo hhi hP hk K hK
            have e24 := hk.see 24 rfl rfl
            have e25 := hk.see 25 rfl rfl
            clear hk
            obtain rfl := hP.eq
            go_wp2_with fail
            all_goals first | exact hP | rfl
          case hst => exact fun h h' e => rfl
        apply And.intro
        · apply ob_quiet
          case hg => rfl
          case hop =>
            intro ax wx h k hlo hhi hP hk K hK
            have e26 := hk.see 26 rfl rfl
            clear hk
            obtain rfl := hP.eq
            go_wp2_with fail
            all_goals first | exact hP | rfl
          case hst => exact fun h h' e => rfl
        apply And.intro
        · apply ob_quiet
          case hg => rfl
          case hop =>
            intro ax wx h k hlo hhi hP hk K hK
            have e27 := hk.see 27 rfl rfl
            clear hk
            obtain rfl := hP.eq
            go_wp2_with fail
            all_goals first | exact hP | rfl
          case hst => exact fun h h' e => rfl
        apply And.intro
        · apply ob_quiet
          case hg => rfl
          case hop =>
            intro ax wx h k hlo hhi hP hk K hK
            have e23 := hk.see 23 rfl rfl
            have e28 := hk.see 28 rfl rfl
            clear hk
            obtain rfl := hP.eq
            go_wp2_with fail
            all_goals first | exact hP | rfl
          case hst => exact fun h h' e => rfl
        apply And.intro
        · apply ob_quiet
          case hg => rfl
          case hop =>
            intro ax wx h k hlo hhi hP hk K hK
            have e29 := hk.see 29 rfl rfl
            clear hk
            go_wp2_with fail
            all_goals first | exact hP | rfl
          case hst => exact fun h h' e => rfl
        apply And.intro
        · apply ob_want
          case hg => rfl
          case hj => rfl
          case hv => exact fun _ => rfl
          case hop =>
            intro ax wx h k hlo hhi hP hk K hK
            have e0 := hk.see 0 rfl rfl
            clear hk
            go_wp2_with fail
            all_goals first | exact hP | rfl
          case hst => exact fun h h' e => rfl
        apply And.intro
        · apply ob_want
          case hg => rfl
          case hj => rfl
          case hv => exact fun _ => rfl
          case hop =>
            intro ax wx h k hlo hhi hP hk K hK
            have e7 := hk.see 7 rfl rfl
            clear hk
            go_wp2_with fail
            all_goals first | exact hP | rfl
          case hst => exact fun h h' e => rfl
        apply And.intro
        · apply ob_want
          case hg => rfl
          case hj => rfl
          case hv => exact fun _ => rfl
          case hop =>
            intro ax wx h k hlo hhi hP hk K hK
            have e31 := hk.see 31 rfl rfl
            have e32 := hk.see 32 rfl rfl
            clear hk
            obtain rfl := hP.eq
            go_wp2_with fail
            all_goals first | exact hP | rfl
          case hst => exact fun h h' e => rfl
        apply And.intro
        · apply ob_want
          case hg => rfl
          case hj => rfl
          case hv => exact fun _ => rfl
          case hop =>
            intro ax wx h k hlo hhi hP hk K hK
            have e33 := hk.see 33 rfl rfl
            clear hk
            obtain rfl := hP.eq
            go_wp2_with fail
            all_goals first | exact hP | rfl
          case hst => exact fun h h' e => rfl
        apply And.intro
        · apply ob_want
          case hg => rfl
          case hj => rfl
          case hv => exact fun _ => rfl
          case hop =>
            intro ax wx h k hlo hhi hP hk K hK
            have e34 := hk.see 34 rfl rfl
            clear hk
            obtain rfl := hP.eq
            go_wp2_with fail
            all_goals first | exact hP | rfl
          case hst => exact fun h h' e => rfl
        apply And.intro
        · apply ob_want
          case hg => rfl
          case hj => rfl
          case hv => exact fun _ => rfl
          case hop =>
            intro ax wx h k hlo hhi hP hk K hK
            have e1 := hk.see 1 rfl rfl
            clear hk
            go_wp2_with fail
            all_goals first | exact hP | rfl
          case hst => exact fun h h' e => rfl
        apply And.intro
        · apply ob_want
          case hg => rfl
          case hj => rfl
          case hv => exact fun _ => rfl
          case hop =>
            intro ax wx h k hlo hhi hP hk K hK
            have e7 := hk.see 7 rfl rfl
            clear hk
            go_wp2_with fail
            all_goals first | exact hP | rfl
          case hst => exact fun h h' e => rfl
        apply And.intro
        · apply ob_want
          case hg => rfl
          case hj => rfl
          case hv => exact fun _ => rfl
          case hop =>
            intro ax wx h k hlo hhi hP hk K hK
            have e36 := hk.see 36 rfl rfl
            have e37 := hk.see 37 rfl rfl
            clear hk
            obtain rfl := hP.eq
            go_wp2_with fail
            all_goals first | exact hP | rfl
          case hst => exact fun h h' e => rfl
        apply And.intro
        · apply ob_want
          case hg => rfl
          case hj => rfl
          case hv => exact fun _ => rfl
          case hop =>
            intro ax wx h k hlo hhi hP hk K hK
            have e38 := hk.see 38 rfl rfl
            clear hk
            obtain rfl := hP.eq
            go_wp2_with fail
            all_goals first | exact hP | rfl
          case hst => exact fun h h' e => rfl
        apply And.intro
        · apply ob_want
          case hg => rfl
          case hj => rfl
          case hv => exact fun _ => rfl
          case hop =>
            intro ax wx h k hlo hhi hP hk K hK
            have e39 := hk.see 39 rfl rfl
            clear hk
            obtain rfl := hP.eq
            go_wp2_with fail
            all_goals first | exact hP | rfl
          case hst => exact fun h h' e => rfl
        apply And.intro
        · apply ob_want
          case hg => rfl
          case hj => rfl
          case hv => exact fun _ => rfl
          case hop =>
            intro ax wx h k hlo hhi hP hk K hK
            have e35 := hk.see 35 rfl rfl
            have e40 := hk.see 40 rfl rfl
            clear hk
            obtain rfl := hP.eq
            go_wp2_with fail
            all_goals first | exact hP | rfl
          case hst => exact fun h h' e => rfl
        apply And.intro
        · apply ob_quiet
          case hg => rfl
          case hop =>
            intro ax wx h k hlo hhi hP hk K hK
            have e30 := hk.see 30 rfl rfl
            have e41 := hk.see 41 rfl rfl
            clear hk
            obtain rfl := hP.eq
            go_wp2_with fail
            all_goals first | exact hP | rfl
          case hst => exact fun h h' e => rfl
        apply And.intro
        · apply ob_quiet
          case hg => rfl
          case hop =>
            intro ax wx h k hlo hhi hP hk K hK
            have e42 := hk.see 42 rfl rfl
            clear hk
            go_wp2_with fail
            all_goals first | exact hP | rfl
          case hst => exact fun h h' e => rfl
        refine And.intro (ob_skip rfl rfl (fun _ => rfl)) ?_
        refine And.intro (ob_skip rfl rfl (fun _ => rfl)) ?_
        refine And.intro (ob_skip rfl rfl (fun _ => rfl)) ?_
        refine And.intro (ob_skip rfl rfl (fun _ => rfl)) ?_
        refine And.intro (ob_skip rfl rfl (fun _ => rfl)) ?_
        refine And.intro (ob_skip rfl rfl (fun _ => rfl)) ?_
        refine And.intro (ob_skip rfl rfl (fun _ => rfl)) ?_
        refine And.intro (ob_skip rfl rfl (fun _ => rfl)) ?_
        refine And.intro (ob_skip rfl rfl (fun _ => rfl)) ?_
        refine And.intro (ob_skip rfl rfl (fun _ => rfl)) ?_
        refine And.intro (ob_skip rfl rfl (fun _ => rfl)) ?_
        apply And.intro
        · apply ob_quiet
          case hg => rfl
          case hop =>
            intro ax wx h k hlo hhi hP hk K hK
            have e43 := hk.see 43 rfl rfl
            have e54 := hk.see 54 rfl rfl
            clear hk
            obtain rfl := hP.eq
            go_wp2_with fail
            all_goals first | exact hP | rfl
          case hst => exact fun h h' e => rfl
        apply And.intro
        · apply ob_quiet
          case hg => rfl
          case hop =>
            intro ax wx h k hlo hhi hP hk K hK
            have e55 := hk.see 55 rfl rfl
            clear hk
            go_wp2_with fail
            all_goals first | exact hP | rfl
          case hst => exact fun h h' e => rfl
        refine And.intro (ob_skip rfl rfl (fun _ => rfl)) ?_
        refine And.intro (ob_skip rfl rfl (fun _ => rfl)) ?_
        refine And.intro (ob_skip_u rfl rfl (fun _ => rfl)) ?_
        refine And.intro (ob_skip_u rfl rfl (fun _ => rfl)) ?_
        refine And.intro (ob_skip_u rfl rfl (fun _ => rfl)) ?_
        refine And.intro (ob_skip_u rfl rfl (fun _ => rfl)) ?_
        refine And.intro (ob_skip_u rfl rfl (fun _ => rfl)) ?_
        refine And.intro (ob_skip_u rfl rfl (fun _ => rfl)) ?_
        refine And.intro (ob_skip_u rfl rfl (fun _ => rfl)) ?_
        refine And.intro (ob_skip_u rfl rfl (fun _ => rfl)) ?_
        refine And.intro (ob_skip_u rfl rfl (fun _ => rfl)) ?_
        refine And.intro (ob_skip_u rfl rfl (fun _ => rfl)) ?_
        refine And.intro (ob_skip_u rfl rfl (fun _ => rfl)) ?_
        refine And.intro (ob_skip rfl rfl (fun _ => rfl)) ?_
        apply And.intro
        · apply ob_quiet
          case hg => rfl
          case hop =>
            intro ax wx h k hlo hhi hP hk K hK
            have e56 := hk.see 56 rfl rfl
            have e70 := hk.see 70 rfl rfl
            clear hk
            obtain rfl := hP.eq
            go_wp2_with fail
            all_goals first | exact hP | rfl
          case hst => exact fun h h' e => rfl
        exact trivial
      intro w' a' h hP HF
      obtain rfl := hP.eq
      exact HQ.out a' (by rw [HE.out]; exact HF.keep [0, 1, 2, 6, 7, 71])
  · have HE := Lib.hid (show tokEq pl (⟨pk, pt, pn⟩, pa) (⟨qk, qt, qn⟩, qa) = false by rw [HTE.out]; simp [h1])
    have h1' : ((pk : Int) == qk) = false := by simp; omega
    have h1'' : ((pk : Int) != qk) = true := by rw [bne, h1']; rfl
    clear h1
    apply sl_flow5 (N := 0) [some 19, some 20, some 21, some 22, some 23, some 24, some 25, some 26, some 27, some 28, some 29, some 30, some 31, some 32, some 33, some 34, some 35, some 36, some 37, some 38, some 39, some 40, some 41, some 42, some 43, some 44, some 45, some 46, some 47, some 48, some 49, some 50, some 51, some 52, some 53, some 54, some 55, some 56, some 57, some 58, some 59, some 60, some 61, some 62, some 63, some 64, some 65, some 66, some 67, some 68, some 69, some 70, some 71] [.quiet 0 0, .quiet 0 0, .quiet 0 0, .quiet 0 0, .quiet 0 0, .quiet 0 0, .quiet 0 0, .quiet 0 0, .quiet 0 0, .quiet 0 0, .quiet 0 0, .quiet 0 0, .quiet 0 0, .quiet 0 0, .quiet 0 0, .quiet 0 0, .quiet 0 0, .quiet 0 0, .quiet 0 0, .quiet 0 0, .quiet 0 0, .quiet 0 0, .quiet 0 0, .quiet 0 0, .quiet 0 0, .quiet 0 0, .quiet 0 0, .quiet 0 0, .quiet 0 0, .quiet 0 0, .quiet 0 0, .quiet 0 0, .quiet 0 0, .quiet 0 0, .quiet 0 0, .quiet 0 0, .quiet 0 0, .quiet 0 0, .quiet 0 0, .quiet 0 0, .quiet 0 0, .quiet 0 0, .quiet 0 0, .quiet 0 0, .quiet 0 0, .quiet 0 0, .quiet 0 0, .quiet 0 0, .quiet 0 0, .quiet 0 0, .quiet 0 0, .quiet 0 0, .quiet 0 0] (PhEq w.drew) [_, _, _, _, _, _, _, _, _, _, _, _, (fun _ => undef), (fun _ => undef), (fun _ => undef), (fun _ => undef), (fun _ => undef), (fun _ => undef), (fun _ => undef), (fun _ => undef), (fun _ => undef), (fun _ => undef), (fun _ => undef), _, _, (fun _ => undef), (fun _ => undef), (fun _ => undef), (fun _ => undef), (fun _ => undef), (fun _ => undef), (fun _ => undef), (fun _ => undef), (fun _ => undef), (fun _ => undef), (fun _ => undef), _, _, (fun _ => undef), (fun _ => undef), (fun _ => undef), (fun _ => undef), (fun _ => undef), (fun _ => undef), (fun _ => undef), (fun _ => undef), (fun _ => undef), (fun _ => undef), (fun _ => undef), (fun _ => undef), (fun _ => undef), (fun _ => undef), _] HF
    case hm => kernel_rfl
    case hok => kernel_rfl
    case hfl => rfl
    case h0 => exact (fun _ => ⟨rfl⟩)
    case hobs =>
      apply And.intro
      · apply ob_quiet
        case hg => rfl
        case hop =>
          intro ax wx h k hlo hhi hP hk K hK
          have e0 := hk.see 0 rfl rfl
          clear hk
          go_wp2_with fail
          all_goals first | exact hP | rfl
        case hst => exact fun h h' e => rfl
      apply And.intro
      · apply ob_quiet
        case hg => rfl
        case hop =>
          intro ax wx h k hlo hhi hP hk K hK
          have e7 := hk.see 7 rfl rfl
          clear hk
          go_wp2_with fail
          all_goals first | exact hP | rfl
        case hst => exact fun h h' e => rfl
      apply And.intro
      · apply ob_quiet
        case hg => rfl
        case hop =>
          intro ax wx h k hlo hhi hP hk K hK
          have e19 := hk.see 19 rfl rfl
          have e20 := hk.see 20 rfl rfl
          clear hk
          obtain rfl := hP.eq
          go_wp2_with fail
          all_goals first | exact hP | rfl
        case hst => exact fun h h' e => rfl
      apply And.intro
      · apply ob_quiet
        case hg => rfl
        case hop =>
          intro ax wx h k hlo hhi hP hk K hK
          have e21 := hk.see 21 rfl rfl
          clear hk
          obtain rfl := hP.eq
          go_wp2_with fail
          all_goals first | exact hP | rfl
        case hst => exact fun h h' e => rfl
      apply And.intro
      · apply ob_quiet
        case hg => rfl
        case hop =>
          intro ax wx h k hlo hhi hP hk K hK
          have e22 := hk.see 22 rfl rfl
          clear hk
          obtain rfl := hP.eq
          go_wp2_with fail
          all_goals first | exact hP | rfl
        case hst => exact fun h h' e => rfl
      apply And.intro
      · apply ob_quiet
        case hg => rfl
        case hop =>
          intro ax wx h k hlo hhi hP hk K hK
          have e1 := hk.see 1 rfl rfl
          clear hk
          go_wp2_with fail
          all_goals first | exact hP | rfl
        case hst => exact fun h h' e => rfl
      apply And.intro
      · apply ob_quiet
        case hg => rfl
        case hop =>
          intro ax wx h k hlo hhi hP hk K hK
          have e7 := hk.see 7 rfl rfl
          clear hk
          go_wp2_with fail
          all_goals first | exact hP | rfl
        case hst => exact fun h h' e => rfl
      apply And.intro
      · apply ob_quiet
        case hg => rfl
        case hop =>
          intro ax wx h k hlo hhi hP hk K hK
          have e24 := hk.see 24 rfl rfl
          have e25 := hk.see 25 rfl rfl
          clear hk
          obtain rfl := hP.eq
          go_wp2_with fail
          all_goals first | exact hP | rfl
        case hst => exact fun h h' e => rfl
      apply And.intro
      · apply ob_quiet
        case hg => rfl
        case hop =>
          intro ax wx h k hlo hhi hP hk K hK
          have e26 := hk.see 26 rfl rfl
          clear hk
          obtain rfl := hP.eq
          go_wp2_with fail
          all_goals first | exact hP | rfl
        case hst => exact fun h h' e => rfl
      apply And.intro
      · apply ob_quiet
        case hg => rfl
        case hop =>
          intro ax wx h k hlo hhi hP hk K hK
          have e27 := hk.see 27 rfl rfl
          clear hk
          obtain rfl := hP.eq
          go_wp2_with fail
          all_goals first | exact hP | rfl
        case hst => exact fun h h' e => rfl
      apply And.intro
      · apply ob_quiet
        case hg => rfl
        case hop =>
          intro ax wx h k hlo hhi hP hk K hK
          have e23 := hk.see 23 rfl rfl
          have e28 := hk.see 28 rfl rfl
          clear hk
          obtain rfl := hP.eq
          go_wp2_with fail
          all_goals first | exact hP | rfl
        case hst => exact fun h h' e => rfl
      apply And.intro
      · apply ob_quiet
        case hg => rfl
        case hop =>
          intro ax wx h k hlo hhi hP hk K hK
          have e29 := hk.see 29 rfl rfl
          clear hk
          go_wp2_with fail
          all_goals first | exact hP | rfl
        case hst => exact fun h h' e => rfl
      refine And.intro (ob_skip rfl rfl (fun _ => rfl)) ?_
      refine And.intro (ob_skip rfl rfl (fun _ => rfl)) ?_
      refine And.intro (ob_skip rfl rfl (fun _ => rfl)) ?_
      refine And.intro (ob_skip rfl rfl (fun _ => rfl)) ?_
      refine And.intro (ob_skip rfl rfl (fun _ => rfl)) ?_
      refine And.intro (ob_skip rfl rfl (fun _ => rfl)) ?_
      refine And.intro (ob_skip rfl rfl (fun _ => rfl)) ?_
      refine And.intro (ob_skip rfl rfl (fun _ => rfl)) ?_
      refine And.intro (ob_skip rfl rfl (fun _ => rfl)) ?_
      refine And.intro (ob_skip rfl rfl (fun _ => rfl)) ?_
      refine And.intro (ob_skip rfl rfl (fun _ => rfl)) ?_
      apply And.intro
      · apply ob_quiet
        case hg => rfl
        case hop =>
          intro ax wx h k hlo hhi hP hk K hK
          have e30 := hk.see 30 rfl rfl
          have e41 := hk.see 41 rfl rfl
          clear hk
          obtain rfl := hP.eq
          go_wp2_with fail
          all_goals first | exact hP | rfl
        case hst => exact fun h h' e => rfl
      apply And.intro
      · apply ob_quiet
        case hg => rfl
        case hop =>
          intro ax wx h k hlo hhi hP hk K hK
          have e42 := hk.see 42 rfl rfl
          clear hk
          go_wp2_with fail
          all_goals first | exact hP | rfl
        case hst => exact fun h h' e => rfl
      refine And.intro (ob_skip rfl rfl (fun _ => rfl)) ?_
      refine And.intro (ob_skip rfl rfl (fun _ => rfl)) ?_
      refine And.intro (ob_skip rfl rfl (fun _ => rfl)) ?_
      refine And.intro (ob_skip rfl rfl (fun _ => rfl)) ?_
      refine And.intro (ob_skip rfl rfl (fun _ => rfl)) ?_
      refine And.intro (ob_skip rfl rfl (fun _ => rfl)) ?_
      refine And.intro (ob_skip rfl rfl (fun _ => rfl)) ?_
      refine And.intro (ob_skip rfl rfl (fun _ => rfl)) ?_
      refine And.intro (ob_skip rfl rfl (fun _ => rfl)) ?_
      refine And.intro (ob_skip rfl rfl (fun _ => rfl)) ?_
      refine And.intro (ob_skip rfl rfl (fun _ => rfl)) ?_
      apply And.intro
      · apply ob_quiet
        case hg => rfl
        case hop =>
          intro ax wx h k hlo hhi hP hk K hK
          have e43 := hk.see 43 rfl rfl
          have e54 := hk.see 54 rfl rfl
          clear hk
          obtain rfl := hP.eq
          go_wp2_with fail
          all_goals first | exact hP | rfl
        case hst => exact fun h h' e => rfl
      apply And.intro
      · apply ob_quiet
        case hg => rfl
        case hop =>
          intro ax wx h k hlo hhi hP hk K hK
          have e55 := hk.see 55 rfl rfl
          clear hk
          go_wp2_with fail
          all_goals first | exact hP | rfl
        case hst => exact fun h h' e => rfl
      refine And.intro (ob_skip rfl rfl (fun _ => rfl)) ?_
      refine And.intro (ob_skip rfl rfl (fun _ => rfl)) ?_
      refine And.intro (ob_skip_u rfl rfl (fun _ => rfl)) ?_
      refine And.intro (ob_skip_u rfl rfl (fun _ => rfl)) ?_
      refine And.intro (ob_skip_u rfl rfl (fun _ => rfl)) ?_
      refine And.intro (ob_skip_u rfl rfl (fun _ => rfl)) ?_
      refine And.intro (ob_skip_u rfl rfl (fun _ => rfl)) ?_
      refine And.intro (ob_skip_u rfl rfl (fun _ => rfl)) ?_
      refine And.intro (ob_skip_u rfl rfl (fun _ => rfl)) ?_
      refine And.intro (ob_skip_u rfl rfl (fun _ => rfl)) ?_
      refine And.intro (ob_skip_u rfl rfl (fun _ => rfl)) ?_
      refine And.intro (ob_skip_u rfl rfl (fun _ => rfl)) ?_
      refine And.intro (ob_skip_u rfl rfl (fun _ => rfl)) ?_
      refine And.intro (ob_skip rfl rfl (fun _ => rfl)) ?_
      apply And.intro
      · apply ob_quiet
        case hg => rfl
        case hop =>
          intro ax wx h k hlo hhi hP hk K hK
          have e56 := hk.see 56 rfl rfl
          have e70 := hk.see 70 rfl rfl
          clear hk
          obtain rfl := hP.eq
          go_wp2_with fail
          all_goals first | exact hP | rfl
        case hst => exact fun h h' e => rfl
      exact trivial
    intro w' a' h hP HF
    obtain rfl := hP.eq
    exact HQ.out a' (by rw [HE.out]; exact HF.keep [0, 1, 2, 6, 7, 71])
end Go.Proofs.YtpjpmlhnhcmacaaGreatDoor
