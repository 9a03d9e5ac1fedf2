/- Regions that draw their order, on an abstract frame: behind the region stands a new frame, of which the region's slots' values are told. -/
import Derived.Test.YtpjpmlhnhcmacaaGreatDoorFlow3
namespace Go.Proofs.YtpjpmlhnhcmacaaGreatDoor
open Go.RowKit

section
variable {P : Program}

theorem holdsAll_ext {R : World → World → Prop} {w : World} {vs us : Tmp → Value} : ∀ (VS : List (Tmp × St R)), (∀ t, t ∈ VS.map (·.1) → us t = vs t) → HoldsAll vs w VS → HoldsAll us w VS
  | [], _, _ => trivial
  | (t, s) :: r, h, hh => by
    obtain ⟨h1, h2⟩ := hh
    refine ⟨?_, holdsAll_ext r (fun u hu => h u (by simp [hu])) h2⟩
    rw [h t (by simp)]
    exact h1

/-- What stands behind a region of the slots D: all others as they were. -/
structure Behind (D : List Tmp) (a0 a : Act) : Prop where
  size : a.tmps.size = a0.tmps.size
  defers : a.defers = a0.defers
  other : ∀ t, t ∉ D → a.eval (.tmp t) = a0.eval (.tmp t)

theorem wp_flow2a {id n : Nat} {ops : List Oper} {a0 : Act} {w : World} {Q : Exit → Act → World → Prop} (hm : P.follows .mixedOrders = true) {R : World → World → Prop}
    (VS : List (Tmp × St R)) (hsz : a0.tmps.size = n) (hok : flowOk ops.toArray (VS.map (·.1)) n = true) (hrefl : ∀ a, R a a) (htrans : ∀ a b c, R a b → R b c → R a c)
    (hops : FlowAll2 P ops.toArray VS Q a0 w.drew ops)
    (hfin : ∀ w' a', R w.drew w' → Behind (VS.map (·.1)) a0 a' → HoldsAll (fun t => a'.eval (.tmp t)) w' VS → Q .normal a' w') :
    (Code.region id ops.toArray true).wp P Q a0 w := by
  subst hsz
  have h := hok
  simp only [flowOk, Bool.and_eq_true, decide_eq_true_eq, List.all_eq_true] at h
  refine wp_flow2 hm VS hok hrefl htrans hops fun w' vs hR hV => ?_
  have key := fun t => putAll_eval vs (VS.map (·.1)) a0 t h.1.2 (fun d hd => h.1.1.2 d hd)
  refine hfin w' _ hR ⟨(key 0).2.1, (key 0).2.2, fun t ht => by rw [(key t).1, if_neg ht]⟩ (holdsAll_ext VS (fun t ht => by rw [(key t).1, if_pos ht]) hV)

theorem wp_flow3a {id n : Nat} {ops : List Oper} {a0 : Act} {w : World} {Q : Exit → Act → World → Prop} (hm : P.follows .mixedOrders = true) {R : World → World → Prop}
    (wr : List Nat) (ms : List (Option Nat)) (VS : List (Tmp × St R)) (Ph : Nat → World → Prop) (hsz : a0.tmps.size = n) (hok : flowOk ops.toArray (VS.map (·.1)) n = true) (hch : chainOk ops.toArray wr = true) (hms : marksOk wr ms = true)
    (hrefl : ∀ a, R a a) (htrans : ∀ a b c, R a b → R b c → R a c) (h0 : Ph 0 w.drew)
    (hops : FlowAll4 P ops.toArray VS Q a0 w.drew Ph ms ops)
    (hfin : ∀ w' a', R w.drew w' → Ph wr.length w' → Behind (VS.map (·.1)) a0 a' → HoldsAll (fun t => a'.eval (.tmp t)) w' VS → Q .normal a' w') :
    (Code.region id ops.toArray true).wp P Q a0 w := by
  subst hsz
  have h := hok
  simp only [flowOk, Bool.and_eq_true, decide_eq_true_eq, List.all_eq_true] at h
  refine wp_flow3 hm wr ms VS Ph hok hch hms hrefl htrans h0 hops fun w' vs hR hP hV => ?_
  have key := fun t => putAll_eval vs (VS.map (·.1)) a0 t h.1.2 (fun d hd => h.1.1.2 d hd)
  refine hfin w' _ hR hP ⟨(key 0).2.1, (key 0).2.2, fun t ht => by rw [(key t).1, if_neg ht]⟩ (holdsAll_ext VS (fun t ht => by rw [(key t).1, if_pos ht]) hV)
end
end Go.Proofs.YtpjpmlhnhcmacaaGreatDoor
