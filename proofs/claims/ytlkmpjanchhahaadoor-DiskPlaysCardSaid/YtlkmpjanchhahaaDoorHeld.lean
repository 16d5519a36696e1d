/- A region that draws its order, walked by hand under one condition S on the world: what yields the same value in every world of S comes first. -/
import Derived.Test.YtlkmpjanchhahaaDoorOps2
import Derived.Deep.RegionHeld
namespace Go.Proofs.YtlkmpjanchhahaaDoor
open Go Go.RowKit
section
variable {P : Program} {md : Region.Mode} {l : List Oper} {Q : Exit → Act → World → Prop} {S : World → Prop} {fuel : Nat} {listed : Array Bool} {a : Act} {w : World}
theorem held_take {i : Nat} {oi : Oper} (v : Value) (hS : S w) (hi : l[i]? = some oi) (hs : Region.noSelect l.toArray = true) (hf : Region.free md l.toArray listed i = true) (hr : (Region.ready md l.toArray listed).contains i = true)
    (hQ : ∀ c a w, Q (.panic c) (a.put oi.dst v) w → Q (.panic c) a w) (hw : Region.wanted oi (yielded l.toArray a.tmps) = true) (hy : ∀ W, S W → (execOp a.eval oi).run P W = .ok (.value v) W)
    (h : wpAnyH P md l.toArray Q S fuel (listed.setIfInBounds i true) (a.put oi.dst v) w) : wpAnyH P md l.toArray Q S (fuel + 1) listed a w :=
  wpAnyH_take (by simpa using hi) hs hf hr hQ (Or.inl ⟨hw, hy⟩) hS h
theorem held_skip {i : Nat} {oi : Oper} (hS : S w) (hi : l[i]? = some oi) (hs : Region.noSelect l.toArray = true) (hf : Region.free md l.toArray listed i = true) (hr : (Region.ready md l.toArray listed).contains i = true)
    (hQ : ∀ c a w, Q (.panic c) (a.put oi.dst undef) w → Q (.panic c) a w) (hw : Region.wanted oi (yielded l.toArray a.tmps) = false)
    (h : wpAnyH P md l.toArray Q S fuel (listed.setIfInBounds i true) (a.put oi.dst undef) w) : wpAnyH P md l.toArray Q S (fuel + 1) listed a w :=
  wpAnyH_take (by simpa using hi) hs hf hr hQ (Or.inr ⟨hw, rfl⟩) hS h
theorem held_one {i : Nat} {oi : Oper} (hi : l[i]? = some oi) (hw : Region.wanted oi (yielded l.toArray a.tmps) = true) (hr : Region.ready md l.toArray listed = [i])
    (h : ∀ K : Act → World → Prop, (∀ a w, S w → wpAnyH P md l.toArray Q S fuel (listed.setIfInBounds i true) a w → K a w) → oi.wp P a w K Q) : wpAnyH P md l.toArray Q S (fuel + 1) listed a w := by
  refine wpAnyH_ready hr (by simp) (AllReadyH.cons (o := oi) (by simpa using hi) (fun K hK => ?_) AllReadyH.nil)
  rw [if_pos hw]
  exact h K (fun a w h1 h2 => hK a w h1 (fun _ => h2))
theorem held_done {listed : Array Bool} (hr : Region.ready md l.toArray listed = []) (h : Q .normal a w) (fuel : Nat) : wpAnyH P md l.toArray Q S fuel listed a w := wpAnyH_done hr h fuel
end
end Go.Proofs.YtlkmpjanchhahaaDoor
