/- A round of layer 17's law NetPlays: what it is given. Printed by mknetplays.py. -/
import Derived.Test.YtoekmgpnmhknoaaNet6
namespace Go.Proofs.Ytoekmgpnmhknoaa
open Go.RowKit
theorem NetX.own {w : World} {B D : Nat} {X Y : Nat → Prop} {its : List (List UInt8)} (h : NetX w B D X its) (hY : ∀ k, Y k → X k) : NetX w B D Y its := h.more fun k e => Or.inl (hY k e)
theorem row_mono {w : World} {b base size n : Nat} {e : TypeId} {v : Value} {xs : List Value} (h : w.ownsRow base e size v n xs) (hb : b ≤ base) : w.ownsRow b e size v n xs := by
  refine ⟨h.1, ?_⟩
  rcases h.2 with h1 | ⟨g, cap, cur, h1, h2, h3⟩
  · exact Or.inl h1
  · exact Or.inr ⟨g, cap, cur, h1, Nat.le_trans hb h2, h3⟩
def firstLoop_ : Code → Option Code
  | .loop c => some c
  | .seq a b => match firstLoop_ a with
    | some c => some c
    | none => firstLoop_ b
  | .block _ c => firstLoop_ c
  | .scope c => firstLoop_ c
  | .cond _ a b => match firstLoop_ a with
    | some c => some c
    | none => firstLoop_ b
  | _ => none
noncomputable def npBody : Code := ((Try.f3.body.bind firstLoop_).getD .skip)
/-- What a round is given. -/
structure NPIn (w wr : World) (B D : Nat) (A : Option Addr) (os : List OpN) (qs : List MsgP) (v : Value) : Prop where
  read : OpNsRd wr B A os
  small : ∀ o ∈ os, o.p.m.cost ≤ 67108864
  len : os.length ≤ 67108864
  full : qs.length ≤ 4096
  good : ∀ p ∈ qs, (∃ o ∈ os, o.p = p) ∧ (WS.msg ⟨[], false⟩ p.m).bad = false
  own : wr.ownsRow B 31 16 v qs.length (msgsC qs)
  net : NetX wr B D (fun k => v.ownBlock = some k) (qs.map MsgP.out)
  below : Below B w wr
  size : B ≤ wr.heap.size
end Go.Proofs.Ytoekmgpnmhknoaa
