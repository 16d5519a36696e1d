/- More laws of the walk: guarded operations in a region that draws its order; conversions. -/
import Derived.Test.YtlkmpjanchhahaaDoorOps
import Derived.Laws.MakeOwn
namespace Go.Proofs.YtlkmpjanchhahaaDoor
open Go.RowKit
section
variable {P : Program} {md : Region.Mode} {l : List Oper} {Q : Exit → Act → World → Prop} {fuel : Nat} {listed : Array Bool} {a : Act} {w : World}
theorem any_one_g {i : Nat} {oi : Oper} (hi : l[i]? = some oi) (hw : Region.wanted oi (yielded l.toArray a.tmps) = true) (hr : Region.ready md l.toArray listed = [i])
    (h : ∀ K : Act → World → Prop, (∀ a w, wpAny P md l.toArray Q fuel (listed.setIfInBounds i true) a w → K a w) → oi.wp P a w K Q) : wpAny P md l.toArray Q (fuel + 1) listed a w := by
  refine wpAny_ready hr (by simp) (AllReady.cons (o := oi) (by simpa using hi) (fun K hK => ?_) AllReady.nil)
  rw [if_pos hw]
  exact h K hK
theorem any_two_g {i j : Nat} {oi oj : Oper} (hi : l[i]? = some oi) (hj : l[j]? = some oj) (hwi : Region.wanted oi (yielded l.toArray a.tmps) = true) (hwj : Region.wanted oj (yielded l.toArray a.tmps) = true) (hr : Region.ready md l.toArray listed = [i, j])
    (h1 : ∀ K : Act → World → Prop, (∀ a w, wpAny P md l.toArray Q fuel (listed.setIfInBounds i true) a w → K a w) → oi.wp P a w K Q) (h2 : ∀ K : Act → World → Prop, (∀ a w, wpAny P md l.toArray Q fuel (listed.setIfInBounds j true) a w → K a w) → oj.wp P a w K Q) : wpAny P md l.toArray Q (fuel + 1) listed a w := by
  refine wpAny_ready hr (by simp) (AllReady.cons (o := oi) (by simpa using hi) (fun K hK => ?_) (AllReady.cons (o := oj) (by simpa using hj) (fun K hK => ?_) AllReady.nil))
  · rw [if_pos hwi]
    exact h1 K hK
  · rw [if_pos hwj]
    exact h2 K hK
end
section
variable {P : Program} {a : Act} {w : World}
theorem exec_convert {o : Oper} (s d : TypeId) (x : Operand) (hop : o.op = .convert s d x) {v : Value} {w' : World} (hrun : (convert s d (a.eval x)).run P w = .ok v w') : (execOp a.eval o).run P w = .ok (.value v) w' := by
  simp only [execOp, hop, Sem.run_bind, hrun]; rfl
theorem exec_makeSlice {o : Oper} (t : TypeId) (x y : Operand) (hop : o.op = .makeSlice t x y) {v : Value} {w' : World} (hrun : (Instr.makeSlice t (a.eval x) (a.eval y)).run P w = .ok v w') : (execOp a.eval o).run P w = .ok (.value v) w' := by
  simp only [execOp, hop, Sem.run_bind, hrun]; rfl
/-- A slice made of n elements of one cell each. -/
theorem run_make_cells (t e : TypeId) (z : Value) (bytes : Nat) (ht : P.underlying t = some (.slice e)) (hi : (P.info? e).map (fun i => (i.zero, i.size, i.bytes)) = some (some z, 1, bytes)) (hz : z.cells = #[z]) (n : Nat) (hn : n ≤ 16777216) (hb : bytes ≤ 64) :
    (Instr.makeSlice t (.int .i64 n) (.int .i64 n)).run P w = .ok (.slice (some ⟨w.heap.size, 0, none⟩) n n) (w.alloc (.cells (List.replicate n z).toArray e)) := by
  obtain ⟨i, hi1, hz1, hsize, hby⟩ := info_parts hi
  have h1 : i.bytes * n ≤ 64 * 16777216 := Nat.mul_le_mul (by omega) hn
  have := run_makeSlice (P := P) w t e i z ht hi1 hz1 .i64 .i64 n n (by omega) (by omega) (by rw [hsize]; simpa using hn) (by omega) (by omega)
  rw [this, hsize, hz]
  simp
  unfold madeCells
  congr 2
  apply Array.ext
  · simp
  · intro j h1 h2
    simp [Nat.mod_one]
end
end Go.Proofs.YtlkmpjanchhahaaDoor
