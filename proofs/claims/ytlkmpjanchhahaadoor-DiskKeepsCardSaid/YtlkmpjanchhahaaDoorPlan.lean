/- A region that draws its order, walked in one planned order: what yields the same value in every world of S may come first; what is left must come up alone. One check by the kernel for the whole plan. -/
import Derived.Test.YtlkmpjanchhahaaDoorFrame0
namespace Go.Proofs.YtlkmpjanchhahaaDoor
open Go Go.RowKit

/-- Is the plan an order in which each operation marked 'held' may be taken first, and each other one comes up alone? -/
def planOK (md : Region.Mode) (ops : Array Oper) : Array Bool → List (Nat × Bool) → Bool
  | listed, [] => (Region.ready md ops listed).isEmpty
  | listed, (i, true) :: r => (ops[i]?).isSome && Region.free md ops listed i && (Region.ready md ops listed).contains i && planOK md ops (listed.setIfInBounds i true) r
  | listed, (i, false) :: r => (ops[i]?).isSome && (Region.ready md ops listed == [i]) && planOK md ops (listed.setIfInBounds i true) r

/-- The plan carried out: S is shown anew behind each operation that is not held. -/
def wpPlan (P : Program) (ops : Array Oper) (Q : Exit → Act → World → Prop) (S : World → Prop) : List (Nat × Bool) → Act → World → Prop
  | [], a, w => Q .normal a w
  | (i, true) :: r, a, w => ∀ o, ops[i]? = some o → ∃ v, ((Region.wanted o (yielded ops a.tmps) = true ∧ ∀ W, S W → (execOp a.eval o).run P W = .ok (.value v) W) ∨ (Region.wanted o (yielded ops a.tmps) = false ∧ v = undef)) ∧ wpPlan P ops Q S r (a.put o.dst v) w
  | (i, false) :: r, a, w => ∀ o, ops[i]? = some o → ∀ K : Act → World → Prop, (∀ a' w', S w' → wpPlan P ops Q S r a' w' → K a' w') → if Region.wanted o (yielded ops a.tmps) = true then Oper.wp P o a w K Q else K (a.put o.dst undef) w

section
variable {P : Program} {md : Region.Mode} {ops : Array Oper} {Q : Exit → Act → World → Prop} {S : World → Prop}
theorem panic_put (hQ : ∀ c (t u : Array Value) d w, Q (.panic c) ⟨t, d⟩ w → Q (.panic c) ⟨u, d⟩ w) {c : List PanicEntry} {a : Act} {d : Option Tmp} {v : Value} {w : World} (h : Q (.panic c) (a.put d v) w) : Q (.panic c) a w := by
  cases d with
  | none => exact h
  | some d => exact hQ c _ _ _ w h
theorem wpPlan_sound (hs : Region.noSelect ops = true) (hQ : ∀ c (t u : Array Value) d w, Q (.panic c) ⟨t, d⟩ w → Q (.panic c) ⟨u, d⟩ w) : ∀ (plan : List (Nat × Bool)) (fuel : Nat) (listed : Array Bool) (a : Act) (w : World),
    plan.length ≤ fuel → planOK md ops listed plan = true → S w → wpPlan P ops Q S plan a w → wpAnyH P md ops Q S fuel listed a w
  | [], fuel, listed, a, w, _, hp, _, h => wpAnyH_done (by simpa [planOK] using hp) h fuel
  | (i, true) :: r, 0, listed, a, w, hf, _, _, _ => by simp at hf
  | (i, true) :: r, fuel + 1, listed, a, w, hf, hp, hS, h => by
    simp only [planOK, Bool.and_eq_true] at hp
    obtain ⟨⟨⟨h1, h2⟩, h3⟩, h4⟩ := hp
    obtain ⟨o, ho⟩ := Option.isSome_iff_exists.1 h1
    obtain ⟨v, hv, h⟩ := h o ho
    exact wpAnyH_take ho hs h2 h3 (fun c a w h => panic_put hQ h) hv hS (wpPlan_sound hs hQ r fuel _ _ w (by simp at hf; omega) h4 hS h)
  | (i, false) :: r, 0, listed, a, w, hf, _, _, _ => by simp at hf
  | (i, false) :: r, fuel + 1, listed, a, w, hf, hp, hS, h => by
    simp only [planOK, Bool.and_eq_true] at hp
    obtain ⟨⟨h1, h2⟩, h4⟩ := hp
    obtain ⟨o, ho⟩ := Option.isSome_iff_exists.1 h1
    refine wpAnyH_ready (by simpa using h2) (by simp) (AllReadyH.cons ho (fun K hK => h o ho K fun a' w' hS' hr => hK a' w' hS' fun _ => wpPlan_sound hs hQ r fuel _ _ w' (by simp at hf; omega) h4 hS' hr) AllReadyH.nil)

/-- The beginning. -/
theorem wp_region_plan {id : Nat} {l : List Oper} {a : Act} {w : World} (hm : P.follows .mixedOrders = true) (S : World → Prop) (plan : List (Nat × Bool)) (hs : Region.noSelect l.toArray = true)
    (hp : (plan.length == l.length && planOK .any l.toArray (Array.replicate l.toArray.size false) plan) = true)
    (hQ : ∀ c (t u : Array Value) d w, Q (.panic c) ⟨t, d⟩ w → Q (.panic c) ⟨u, d⟩ w) (hS : S w.drew) (h : wpPlan P l.toArray Q S plan a w.drew) : (Code.region id l.toArray true).wp P Q a w := by
  simp only [Bool.and_eq_true, beq_iff_eq] at hp
  exact wp_region_held_drew hm hS (fun hS => wpPlan_sound hs hQ plan _ _ a _ (by simp [hp.1]) hp.2 hS h)

variable {i : Nat} {l : List Oper} {o : Oper} {r : List (Nat × Bool)} {a : Act} {w : World}
theorem plan_held (v : Value) (ho : l[i]? = some o) (hw : Region.wanted o (yielded l.toArray a.tmps) = true) (hy : ∀ W, S W → (execOp a.eval o).run P W = .ok (.value v) W) (h : wpPlan P l.toArray Q S r (a.put o.dst v) w) : wpPlan P l.toArray Q S ((i, true) :: r) a w := by
  intro o' ho'
  obtain rfl : o = o' := by simpa [ho] using ho'
  exact ⟨v, .inl ⟨hw, hy⟩, h⟩
theorem plan_skip (ho : l[i]? = some o) (hw : Region.wanted o (yielded l.toArray a.tmps) = false) (h : wpPlan P l.toArray Q S r (a.put o.dst undef) w) : wpPlan P l.toArray Q S ((i, true) :: r) a w := by
  intro o' ho'
  obtain rfl : o = o' := by simpa [ho] using ho'
  exact ⟨undef, .inr ⟨hw, rfl⟩, h⟩
theorem plan_one (ho : l[i]? = some o) (hw : Region.wanted o (yielded l.toArray a.tmps) = true) (h : ∀ K : Act → World → Prop, (∀ a' w', S w' → wpPlan P l.toArray Q S r a' w' → K a' w') → Oper.wp P o a w K Q) : wpPlan P l.toArray Q S ((i, false) :: r) a w := by
  intro o' ho' K hK
  obtain rfl : o = o' := by simpa [ho] using ho'
  rw [if_pos hw]; exact h K hK
/-- An operation that is run, once: its value and the world behind it are known. -/
theorem plan_run {v : Value} {w' : World} (ho : l[i]? = some o) (hw : Region.wanted o (yielded l.toArray a.tmps) = true) (hrun : (execOp a.eval o).run P w = .ok (.value v) w') (hS : S w') (h : wpPlan P l.toArray Q S r (a.put o.dst v) w') : wpPlan P l.toArray Q S ((i, false) :: r) a w :=
  plan_one ho hw fun _ hK => wp_run hrun (hK _ _ hS h)
theorem plan_runskip {w' : World} (ho : l[i]? = some o) (hw : Region.wanted o (yielded l.toArray a.tmps) = true) (hrun : (execOp a.eval o).run P w = .ok .skip w') (hS : S w') (h : wpPlan P l.toArray Q S r (a.put o.dst undef) w') : wpPlan P l.toArray Q S ((i, false) :: r) a w :=
  plan_one ho hw fun _ hK => by unfold Oper.wp; rw [hrun]; exact hK _ _ hS h
/-- A call of a function of the program by its contract. -/
theorem plan_calls (f : FuncId) (xs : Array Operand) (ts : Array TypeId) (ho : l[i]? = some o) (hw : Region.wanted o (yielded l.toArray a.tmps) = true) (hop : o.op = .call { callee := .value (.func f), args := xs, argTypes := ts })
    (fn : Func) (hf : P.funcs[f]? = some fn) (hname : (fn.name == "runtime.NumGoroutine") = false) (hb : fn.body.isSome = true)
    (args : Array Value) (ha : xs.map a.eval = args) {R : Ending → World → Prop} (hc : Calls P f args w R) (hR : ∀ e w', R e w' → ∃ v, e = .returned v ∧ S w' ∧ wpPlan P l.toArray Q S r (a.put o.dst v) w') : wpPlan P l.toArray Q S ((i, false) :: r) a w :=
  plan_one ho hw fun _ hK => wp_calls f xs ts hop fn hf hname hb args ha hc fun e w' he => by
    obtain ⟨v, h1, h2, h3⟩ := hR e w' he
    exact ⟨v, h1, hK _ _ h2 h3⟩
theorem plan_one_skip (ho : l[i]? = some o) (hw : Region.wanted o (yielded l.toArray a.tmps) = false) (hS : S w) (h : wpPlan P l.toArray Q S r (a.put o.dst undef) w) : wpPlan P l.toArray Q S ((i, false) :: r) a w := by
  intro o' ho' K hK
  obtain rfl : o = o' := by simpa [ho] using ho'
  rw [if_neg (by rw [hw]; decide)]; exact hK _ _ hS h
theorem plan_done (h : Q .normal a w) : wpPlan P l.toArray Q S [] a w := h
end
end Go.Proofs.YtlkmpjanchhahaaDoor
