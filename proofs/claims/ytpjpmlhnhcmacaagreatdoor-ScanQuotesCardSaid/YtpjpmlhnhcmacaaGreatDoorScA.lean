/- scan.All, walked. -/
import Derived.Test.YtpjpmlhnhcmacaaGreatDoorScN
namespace Go.Proofs.YtpjpmlhnhcmacaaGreatDoor
open Go.RowKit

/-- The tokens of a text that begins at a place; the place of the error. -/
def scanF : Nat → List UInt8 → Nat → Except Nat (List (Tok × Nat))
  | 0, _, a => .error a
  | f + 1, d, a => match nxtL d with
    | (n, none) => .error (a + n)
    | (n, some (t, k)) => if t.kind = 0 then .ok [(t, a + n)] else match scanF f (d.drop (n + k)) (a + n + k) with
      | .ok ts => .ok ((t, a + n) :: ts)
      | .error e => .error e
def pre (done : List (Tok × Nat)) : Except Nat (List (Tok × Nat)) → Except Nat (List (Tok × Nat))
  | .ok ts => .ok (done ++ ts)
  | .error e => .error e
theorem pre_nil (x : Except Nat (List (Tok × Nat))) : pre [] x = x := by cases x <;> rfl
theorem pre_cons (done : List (Tok × Nat)) (p : Tok × Nat) (x : Except Nat (List (Tok × Nat))) : pre done (match x with | .ok ts => .ok (p :: ts) | .error e => .error e) = pre (done ++ [p]) x := by
  cases x <;> simp [pre]
def allL (l : List UInt8) : Except Nat (List (Tok × Nat)) := scanF (l.length + 1) l 0
/-- What All hands back: the tokens, or the error and its place. -/
def allR (l : List UInt8) : Except (Nat × Nat) (List (Tok × Nat)) := if 4000 < l.length then .error (21, 0) else match allL l with
  | .ok ts => .ok ts
  | .error p => .error (40, p)

def tkC (p : Tok × Nat) : List Value := [.int .i64 p.1.kind, .string (str p.1.text), .int .i64 p.1.n, .int .i64 p.2]
def tkCells (ts : List (Tok × Nat)) : List Value := ts.flatMap tkC
theorem tkCells_snoc (ts : List (Tok × Nat)) (p : Tok × Nat) : tkCells (ts ++ [p]) = tkCells ts ++ tkC p := by simp [tkCells]

/-- The result of All, as values, in a world. -/
def AllIs (B : Nat) (r : Except (Nat × Nat) (List (Tok × Nat))) (e : Ending) (w' : World) : Prop := match r with
  | .error (c, p) => e = .returned (.tuple #[.slice none 0 0, .int .i64 c, .int .i64 p])
  | .ok ts => ∃ v, e = .returned (.tuple #[v, .int .i64 0, .int .i64 0]) ∧ w'.ownsRow B 32 4 v ts.length (tkCells ts)

structure AllSt (w : World) (l : List UInt8) (v : Value) (a : Nat) (done : List (Tok × Nat)) (f : Nat) (wr : World) : Prop where
  le : a ≤ l.length
  fuel : (l.drop a).length < f
  eq : allL l = pre done (scanF f (l.drop a) a)
  len : done.length ≤ a
  own : wr.ownsRow w.heap.size 32 4 v done.length (tkCells done)
  mod : Mod Nil w wr

theorem nxtL_end {d : List UInt8} {n : Nat} {t : Tok} {k : Nat} (h : nxtL d = (n, some (t, k))) : n + k ≤ d.length ∧ (t.kind = 0 ∨ 1 ≤ k) := by
  have hle := skp_le d 0 none (fun s h => by cases h)
  unfold nxtL at h
  split at h
  · split at h
    · injection h with h1 h2
      injection h2 with h2
      injection h2 with h2 h3
      subst h2 h3
      exact ⟨by omega, .inl rfl⟩
    · injection h with h1 h2
      have := tokL_len h2
      rw [List.length_drop] at this
      exact ⟨by omega, .inr this.1⟩
  · cases h

theorem cells_new (w : World) (cs : Array Value) (t : TypeId) (j : Nat) (u : Value) (h : cs.toList[j]? = some u) : (w.alloc (.cells cs t)).cell? ((⟨w.heap.size, 0, none⟩ : Addr).add j) = some u := by
  have : (⟨w.heap.size, 0, none⟩ : Addr).add j = ⟨w.heap.size, j, none⟩ := by unfold Addr.add; split <;> simp_all
  rw [this, (Blk.new w t cs).cell j]
  simpa using h

set_option maxHeartbeats 3200000 in
set_option maxRecDepth 100000 in
theorem scAll_any (l : List UInt8) (hl : l.length ≤ 9223372036854775807) (w : World) : Calls Tryz.prog 13 #[.string (str l)] w fun e w' => AllIs w.heap.size (allR l) e w' ∧ Mod Nil w w' := by
  have hsz := str_size l
  by_cases hbig : 4000 < l.length
  · have HR := Lib.hid (show allR l = .error (21, 0) by unfold allR; rw [if_pos hbig])
    go_enter Tryz.func13, Tryz.ntmps13
    go_wp2_with fail
    go_ret3
    rw [HR.out]
    exact ⟨rfl, Mod.refl _ _⟩
  · obtain ⟨i0, hi, hz0, hz1, hz2⟩ := info_parts (show (Tryz.prog.info? 32).map (fun i => (i.zero, i.size, i.bytes)) = some (some (.agg #[.int .i64 0, .string ⟨#[]⟩, .int .i64 0, .int .i64 0]), 4, 40) by kernel_rfl)
    have HRE := Lib.hid (show ∀ p, allL l = .error p → allR l = .error (40, p) from fun p h => by unfold allR; rw [if_neg hbig, h])
    have HRO := Lib.hid (show ∀ ts, allL l = .ok ts → allR l = .ok ts from fun p h => by unfold allR; rw [if_neg hbig, h])
    have HNX := Lib.hid (fun a ha w => scNext_any l a (by omega) ha w)
    have HST0 := Lib.hid (show AllSt w l (.slice none 0 0) 0 [] (l.length + 1) w from ⟨Nat.zero_le _, by simp, by rw [pre_nil]; rfl, Nat.le_refl _, World.ownsRow_nil _ _ _ _, Mod.refl _ _⟩)
    go_enter Tryz.func13, Tryz.ntmps13
    go_wp2_with fail
    go_loopw [5, 6] (fun v i wr => ∃ a done f, i = .int .i64 (a : Nat) ∧ AllSt w l v a done f wr) (fun _ v _ => l.length - (intOf v).toNat)
    case atStart => exact ⟨0, [], _, rfl, HST0.out⟩
    case round =>
      obtain ⟨a, done, f, rfl, hst⟩ := hrel
      have HST := Lib.hid hst
      have ha := hst.le
      clear hst
      go_wp2_with fail
      refine (HNX.out a ha _).mono ?_
      rintro e w2 ⟨t, k, rfl, hx, hm⟩
      have HM := Lib.hid hm
      have HX := Lib.hid hx
      clear hm hx
      obtain ⟨g, hf⟩ : ∃ g, f = g + 1 := ⟨f - 1, by have := HST.out.fuel; omega⟩
      have HF := Lib.hid hf
      clear hf
      rcases hn : nxtL (l.drop a) with ⟨n, _ | ⟨t', k'⟩⟩
      · have HE := Lib.hid (HRE.out (a + n) (by rw [HST.out.eq, HF.out, scanF, hn]; rfl))
        have HN := Lib.hid hn
        clear hn
        simp only [tokV, Option.isSome]
        go_wp2_with (go_quiet (fail))
        go_ret3
        rw [HE.out]
        exact ⟨rfl, ((HST.out.mod.trans HM.out).alloc _).drewN _⟩
      · obtain ⟨rfl, rfl⟩ : t' = t ∧ k' = k := by
          have := HX.out (t', k') (by rw [hn])
          injection this with h1 h2
          exact ⟨h1, h2⟩
        have hend := nxtL_end hn
        have HEQ := Lib.hid (show allL l = pre done (if t'.kind = 0 then .ok [(t', a + n)] else match scanF g ((l.drop a).drop (n + k')) (a + n + k') with
          | .ok ts => .ok ((t', a + n) :: ts)
          | .error e => .error e) by rw [HST.out.eq, HF.out, scanF, hn])
        have hdl : (l.drop a).length = l.length - a := List.length_drop
        have hown := own_keep HST.out.own HM.out (fun _ _ h => h)
        have HOWN := Lib.hid hown
        have hdone := HST.out.len
        have hw2 := Nat.le_trans HST.out.mod.size HM.out.size
        clear hn
        simp only [tokV, Option.isSome]
        go_wp2_with (at_builtin; refine wpList_append_own _ rfl _ _ 23 rfl w.heap.size 32 i0 (.agg #[.int .i64 0, .string ⟨#[]⟩, .int .i64 0, .int .i64 0]) 4 40 Tryz.underlying23 hi hz0 hz1 hz2 rfl (by decide) _ _ _ rfl ((hown.alloc _).alloc _) ⟨w2.heap.size + 1, 0, none⟩ 1 1 (tkC (t', a + n)) rfl rfl ?c1 ?c2 ?c3 ?c4 ?c5 ?_)
        case c1 =>
          intro j u hj
          have h := cells_new (w2.alloc (.cells #[.int .i64 t'.kind, .string (str t'.text), .int .i64 t'.n, .int .i64 ((a : Int) + (n : Int))] 32)) #[.int .i64 t'.kind, .string (str t'.text), .int .i64 t'.n, .int .i64 ((a : Int) + (n : Int))] 32 j u (by simpa [tkC] using hj)
          have e : (w2.alloc (.cells #[.int .i64 t'.kind, .string (str t'.text), .int .i64 t'.n, .int .i64 ((a : Int) + (n : Int))] 32)).heap.size = w2.heap.size + 1 := by simp
          rw [e] at h
          exact h
        case c2 => intro u hu; simp [tkC] at hu; rcases hu with rfl | rfl | rfl | rfl <;> rfl
        case c3 => unfold maxLen; omega
        case c4 => omega
        case c5 => simp; omega
        intro v' w4 hown' hgrow _
        have hblk : Blk w4 w2.heap.size 32 #[.int .i64 t'.kind, .string (str t'.text), .int .i64 t'.n, .int .i64 ((a : Int) + (n : Int))] :=
          (hgrow.block w2.heap.size (by simp; omega) (fun h => by have := (hown.lt _ h.symm).2; omega)).trans ((Blk.new w2 _ _).alloc _)
        have hkind := hblk.cell 0
        have HOWN4 := Lib.hid hown'
        have hA := ((HST.out.mod.trans HM.out).alloc (.cells #[.int .i64 t'.kind, .string (str t'.text), .int .i64 t'.n, .int .i64 ((a : Int) + (n : Int))] 32)).alloc (.cells #[.int .i64 t'.kind, .string (str t'.text), .int .i64 t'.n, .int .i64 ((a : Int) + (n : Int))] 32)
        have HM4 := Lib.hid (hA.trans' (H := Nil) (Mod.of_grown hgrow) (fun _ _ h => h) (fun k hk h => absurd ((hown.lt k h).1) (by omega)))
        clear hA
        clear hown hown' hgrow hblk
        by_cases hk0 : t'.kind = 0
        · have HE := Lib.hid (HRO.out (done ++ [(t', a + n)]) (by rw [HEQ.out, if_pos hk0]; rfl))
          have hk0' : (t'.kind : Int) = 0 := by omega
          rw [hk0'] at hkind
          clear hk0 hk0'
          go_wp2_with (go_quiet (fail))
          go_ret3
          rw [HE.out]
          refine ⟨⟨v', rfl, ?_⟩, HM4.out⟩
          have := HOWN4.out
          rw [← tkCells_snoc] at this
          simpa using this
        · have hk0' : ((t'.kind : Int) == 0) = false := by simp; omega
          have hk1 : 1 ≤ k' := hend.2.resolve_left hk0
          have hend1 := hend.1
          have HE := Lib.hid (show allL l = pre (done ++ [(t', a + n)]) (scanF g (l.drop (a + n + k')) (a + n + k')) by
            rw [HEQ.out, if_neg hk0, pre_cons, List.drop_drop, Nat.add_assoc])
          have HFU := Lib.hid (show (l.drop (a + n + k')).length < g by
            have := HST.out.fuel
            rw [HF.out] at this
            rw [List.length_drop]
            omega)
          clear hk0
          go_wp2_with (go_quiet (fail))
          refine ⟨⟨a + n + k', done ++ [(t', a + n)], g, ?_, ⟨by omega, HFU.out, HE.out, by simp; omega, ?_, HM4.out⟩⟩, ?_⟩
          · simp <;> omega
          · have := HOWN4.out
            rw [← tkCells_snoc] at this
            simpa using this
          · simp [intOf]
            omega
end Go.Proofs.YtpjpmlhnhcmacaaGreatDoor
