/- A frame that is a letter: what its slots hold behind a chain of writes; whether a guarded operation is wanted. -/
import Derived.Test.YtlkmpjanchhahaaDoorHeld
namespace Go.Proofs.YtlkmpjanchhahaaDoor
open Go Go.RowKit
theorem put_none (a : Act) (v : Value) : a.put none v = a := rfl
theorem sz_put (a : Act) (d : Option Tmp) (v : Value) : (a.put d v).tmps.size = a.tmps.size := by
  cases d <;> simp [Act.put]
theorem ev_put (a : Act) (d k : Nat) (v : Value) (h : d < a.tmps.size) : (a.put (some d) v).eval (.tmp k) = if k = d then v else a.eval (.tmp k) := by
  by_cases hk : k = d
  · subst hk
    rw [if_pos rfl]
    simp [Act.put, Act.eval, Array.getD, h]
  · rw [if_neg hk]
    simp only [Act.put, Act.eval, Array.getD_eq_getD_getElem?, Array.getElem?_setIfInBounds]
    rw [if_neg (fun e => hk e.symm)]
theorem ev_const (a : Act) (v : Value) : a.eval (.const v) = v := rfl
section
variable {ops : Array Oper} {a : Act} {o : Oper}
theorem wanted_none (hg : o.guard = none) : Region.wanted o (yielded ops a.tmps) = true := by simp [Region.wanted, hg]
theorem wanted_of {j d : Nat} {b want r : Bool} (hg : o.guard = some (j, want)) (hd : (ops[j]?).bind (·.dst) = some d) (hs : d < a.tmps.size) (hv : a.eval (.tmp d) = .bool b) (hr : (b == want) = r) : Region.wanted o (yielded ops a.tmps) = r := by
  have e : a.tmps[d]? = some (.bool b) := by
    have : a.tmps.getD d undef = .bool b := hv
    rw [Array.getD, dif_pos hs] at this
    rw [Array.getElem?_eq_getElem hs]
    exact congrArg some this
  rw [← hr]
  unfold Region.wanted yielded
  simp only [hg, hd, Option.bind_some, e]
  cases b <;> cases want <;> rfl
theorem wanted_undef {j d : Nat} {want : Bool} (hg : o.guard = some (j, want)) (hd : (ops[j]?).bind (·.dst) = some d) (hs : d < a.tmps.size) (hv : a.eval (.tmp d) = undef) : Region.wanted o (yielded ops a.tmps) = false := by
  have e : a.tmps[d]? = some undef := by
    have : a.tmps.getD d undef = undef := hv
    rw [Array.getD, dif_pos hs] at this
    rw [Array.getElem?_eq_getElem hs]
    exact congrArg some this
  unfold Region.wanted yielded
  simp only [hg, hd, Option.bind_some, e]
  rfl
end
section
variable {P : Program} {a : Act} {w : World}
theorem exec_move {o : Oper} (x : Operand) (hop : o.op = .move x) {v : Value} (hv : a.eval x = v) : (execOp a.eval o).run P w = .ok (.value v) w := by
  subst hv; unfold execOp; rw [hop]; rfl
theorem exec_assign {o : Oper} (x : Operand) (hop : o.op = .assign x) {v : Value} (hv : a.eval x = v) : (execOp a.eval o).run P w = .ok (.value v) w := by
  subst hv; unfold execOp; rw [hop]; rfl
theorem exec_fieldAddr {o : Oper} (t : TypeId) (x : Operand) (i : Nat) (hop : o.op = .fieldAddr t x i) {xv v : Value} (hx : a.eval x = xv) (hrun : (Instr.fieldAt t xv i).run P w = .ok v w) : (execOp a.eval o).run P w = .ok (.value v) w := by
  subst hx; simp only [execOp, hop, Sem.run_bind, hrun]; rfl
theorem exec_conv {o : Oper} (s d : TypeId) (x : Operand) (hop : o.op = .convert s d x) {xv v : Value} (hx : a.eval x = xv) (hrun : (convert s d xv).run P w = .ok v w) : (execOp a.eval o).run P w = .ok (.value v) w := by
  subst hx; simp only [execOp, hop, Sem.run_bind, hrun]; rfl
theorem exec_app {o : Oper} (s x : Operand) (t t2 : TypeId) (hop : o.op = .call { callee := .builtin .append, args := #[s, x], argTypes := #[t, t2] }) {sv xv v : Value} {w' : World} (hs : a.eval s = sv) (hx : a.eval x = xv) (hrun : (Builtin.append_ #[t, t2] o.type #[sv, xv]).run P w = .ok v w') : (execOp a.eval o).run P w = .ok (.value v) w' := by
  subst hs; subst hx
  simp only [execOp, hop, resolve, invoke, builtin, Sem.run_bind, Sem.run_pure, Result.andThen_ok, List.map_toArray, List.map_cons, List.map_nil, hrun]
theorem exec_pick {o : Oper} (c x y : Operand) (hop : o.op = .pick c x y) {b : Bool} {v : Value} (hc : a.eval c = .bool b) (hv : (if b then a.eval x else a.eval y) = v) : (execOp a.eval o).run P w = .ok (.value v) w := by
  subst hv
  simp only [execOp, hop, hc]
  cases b <;> rfl
end
end Go.Proofs.YtlkmpjanchhahaaDoor
