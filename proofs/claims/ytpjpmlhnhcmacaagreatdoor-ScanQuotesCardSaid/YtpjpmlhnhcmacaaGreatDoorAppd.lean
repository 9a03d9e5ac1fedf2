/- append on an abstract frame: one cell an element. -/
import Derived.Test.YtpjpmlhnhcmacaaGreatDoorAbs
namespace Go.Proofs.YtpjpmlhnhcmacaaGreatDoor
open Go.RowKit

theorem Rd.blk {w : World} {b : Nat} {t : TypeId} {cs : Array Value} (h : Blk w b t cs) : Rd All w (some ⟨b, 0, none⟩) cs.toList := fun _ =>
  ⟨_, rfl, trivial, h.lt, fun j u hu => by
    rw [show (⟨b, 0, none⟩ : Addr).add j = ⟨b, j, none⟩ by unfold Addr.add; split <;> simp_all, h.cell j]
    simpa using hu⟩

/-- What an append leaves. -/
structure Apd (base : Nat) (e : TypeId) (v : Value) (k : Nat) (ys : List Value) (A' : Option Addr) (c' : Nat) (w w' : World) : Prop where
  own : w'.ownsRow base e 1 (.slice A' k c') k ys
  mod : Mod (fun k => v.ownBlock = some k) w w'
  blk : ∀ j, (Value.slice A' k c').ownBlock = some j → v.ownBlock = some j ∨ w.heap.size ≤ j

theorem sl_append1 {P : Program} {n : Nat} {L : List (Tmp × Value)} {a : Act} {ops : Array Oper} {Q : Exit → Act → World → Prop} {w : World} {rest : List Oper} {o : Oper} {d : Tmp}
    (HF : Sl n L a) (hgd : o.guard = none) (hd : o.dst = some d) (hdn : d < n) {s x : Tmp} {t : TypeId} (ho : o.op = .call { callee := .builtin .append, args := #[.tmp s, .tmp x], argTypes := #[t, t] })
    {base : Nat} {e : TypeId} {i : TypeInfo} {z : Value} {bytes : Nat} (ht : P.underlying t = some (.slice e)) (hi : P.info? e = some i) (hz : i.zero = some z) (hsize : i.size = 1) (hby : i.bytes = bytes) (hzs : z.cells.size = 1)
    {v : Value} {k : Nat} {xs : List Value} (hs : look L s = some v) (hown : w.ownsRow base e 1 v k xs) {S : Nat → Prop} {A : Option Addr} {m c : Nat} {news : List Value} (hx : look L x = some (.slice A m c)) (hl : news.length = m) (hr : Rd S w A news)
    (h1 : ∀ u ∈ news, u.oneCell' = true) (hbytes : (k + m) * bytes ≤ 140737488355328) (h63 : k + m ≤ maxLen) (hbase : base ≤ w.heap.size)
    (hk : ∀ A' c' w' a', Sl n ((d, .slice A' (k + m) c') :: L) a' → Apd base e v (k + m) (xs ++ news) A' c' w w' → wpList P ops Q rest a' w') : wpList P ops Q (o :: rest) a w := by
  refine wpList_append1' (w := w) hgd (.tmp s) (.tmp x) t ho base e i z bytes ht hi hz hsize hby hzs v k xs (HF.at s hs) hown S A m c news (HF.at x hx) hl hr h1 hbytes h63 hbase fun A' c' w' h1 h2 h3 => ?_
  rw [hd]
  exact hk A' c' w' _ (HF.put hdn _) ⟨h1, h2, h3⟩
end Go.Proofs.YtpjpmlhnhcmacaaGreatDoor
