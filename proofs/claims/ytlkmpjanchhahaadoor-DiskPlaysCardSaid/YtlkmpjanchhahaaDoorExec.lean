/- What single operations yield, each from plain facts: for regions that are walked by a plan. -/
import Derived.Test.YtlkmpjanchhahaaDoorPlan2
import Derived.Test.YtlkmpjanchhahaaDoorZeros
namespace Go.Proofs.YtlkmpjanchhahaaDoor
open Go Go.RowKit
section
variable {P : Program} {a : Act} {w : World} {o : Oper}
theorem exec_nil (x : Operand) (hop : o.op = .nilCheck x) {ad : Addr} (hx : a.eval x = .pointer (some ad)) : (execOp a.eval o).run P w = .ok (.value (.pointer (some ad))) w := by
  unfold execOp; rw [hop]; simp only [hx]; rfl
theorem add_zero (b q off : Nat) : (⟨b, q, none⟩ : Addr).add off = ⟨b, q + off, none⟩ := by
  unfold Addr.add; split
  · rename_i h; subst h; rfl
  · rfl
/-- The address of a field whose type has at least one cell. -/
theorem exec_field (T : TypeId) (x : Operand) (i off ft : Nat) (hop : o.op = .fieldAddr T x i) {b q : Nat} (hx : a.eval x = .pointer (some ⟨b, q, none⟩)) {fs : Array Field} (hT : P.underlying T = some (.struct fs)) (hf : (fs[i]?).map (fun f => (f.offset, f.type)) = some (off, ft))
    (hsz : ((P.info? ft).map fun i => decide (i.size = 0)) = some false) : (execOp a.eval o).run P w = .ok (.value (.pointer (some ⟨b, q + off, none⟩))) w := by
  obtain ⟨f, hf1, hf2⟩ := Option.map_eq_some_iff.1 hf
  obtain ⟨ii, hi1, hi2⟩ := Option.map_eq_some_iff.1 hsz
  have hz : ¬ ii.size = 0 := by simpa using hi2
  injection hf2 with hf2 hf3
  subst hf2; subst hf3
  refine exec_fieldAddr T x i hop hx ?_
  simp [Instr.fieldAt, run_underlying hT, hf1, sizeOf, typeInfo, hi1, hz, Result.andThen, go_sem]
theorem exec_load1 (T : TypeId) (x : Operand) (hop : o.op = .load T x) {ad : Addr} {v : Value} (hx : a.eval x = .pointer (some ad)) {d : TypeDesc} (hT : P.underlying T = some d) (hd : d.isRow = false) (hc : w.cell? ad = some v) :
    (execOp a.eval o).run P w = .ok (.value v) w := by
  refine exec_load T x hop ?_
  rw [hx]
  cases d <;> simp [TypeDesc.isRow] at hd <;> simp [Instr.loadAt, Instr.sureAddr, loadVar, isAgg, run_underlying hT, hc, Result.andThen, go_sem]
/-- A value of one cell that is stored as it is. -/
def plainV : Value → Bool
  | .int _ _ | .bool _ | .string _ | .slice _ _ _ | .pointer _ | .iface _ _ | .nilIface | .map _ => true
  | _ => false
theorem exec_store1 (T : TypeId) (x y : Operand) (hop : o.op = .store T x y) {ad : Addr} {u v : Value} (hx : a.eval x = .pointer (some ad)) (hy : a.eval y = v) (hi : (P.info? T).map (·.size) = some 1) (h1 : plainV v = true)
    (hc : w.cell? ad = some u) (hz : w.frozen? ad = false) : (execOp a.eval o).run P w = .ok .skip (w.setCell ad v) := by
  obtain ⟨i, hi1, hi2⟩ := Option.map_eq_some_iff.1 hi
  have hrun : (Instr.storeAt T (.pointer (some ad)) v).run P w = .ok () (w.setCell ad v) := by
    cases v <;> simp [plainV] at h1 <;> simp [Instr.storeAt, Instr.sureAddr, storeVar, sizeOf, typeInfo, hi1, hi2, hc, hz, Result.andThen, go_sem]
  subst hy
  simp only [execOp, hop, hx, Sem.run_bind, hrun]
  rfl
theorem exec_len (x : Operand) (t e : TypeId) (hop : o.op = .call { callee := .builtin .len, args := #[x], argTypes := #[t] }) {ad : Option Addr} {n c : Nat} (hx : a.eval x = .slice ad n c) (hT : P.underlying t = some (.slice e)) : (execOp a.eval o).run P w = .ok (.value (.int .i64 n)) w := by
  have hrun : (Builtin.len_ #[t] o.type #[.slice ad n c]).run P w = .ok (.int .i64 n) w := by
    simp [Builtin.len_, run_underlying hT, Result.andThen, go_sem]
  simp only [execOp, hop, resolve, invoke, builtin, Sem.run_bind, Sem.run_pure, Result.andThen_ok, List.map_toArray, List.map_cons, List.map_nil, hx, hrun]
theorem exec_lenS (x : Operand) (t : TypeId) (hop : o.op = .call { callee := .builtin .len, args := #[x], argTypes := #[t] }) {s : ByteArray} (hx : a.eval x = .string s) (hT : P.underlying t = some .string) : (execOp a.eval o).run P w = .ok (.value (.int .i64 s.size)) w := by
  have hrun : (Builtin.len_ #[t] o.type #[.string s]).run P w = .ok (.int .i64 s.size) w := by
    simp [Builtin.len_, run_underlying hT, Result.andThen, go_sem]
  simp only [execOp, hop, resolve, invoke, builtin, Sem.run_bind, Sem.run_pure, Result.andThen_ok, List.map_toArray, List.map_cons, List.map_nil, hx, hrun]
theorem exec_cap (x : Operand) (t e : TypeId) (hop : o.op = .call { callee := .builtin .cap, args := #[x], argTypes := #[t] }) {ad : Option Addr} {n c : Nat} (hx : a.eval x = .slice ad n c) (hT : P.underlying t = some (.slice e)) : (execOp a.eval o).run P w = .ok (.value (.int .i64 c)) w := by
  have hrun : (Builtin.cap_ #[t] o.type #[.slice ad n c]).run P w = .ok (.int .i64 c) w := by
    simp [Builtin.cap_, run_underlying hT, Result.andThen, go_sem]
  simp only [execOp, hop, resolve, invoke, builtin, Sem.run_bind, Sem.run_pure, Result.andThen_ok, List.map_toArray, List.map_cons, List.map_nil, hx, hrun]
theorem exec_bin (b : BinOp) (t t2 : TypeId) (x y : Operand) (hop : o.op = .binOp b t x y t2) {xv yv v : Value} (hx : a.eval x = xv) (hy : a.eval y = yv) (hg : (eqGuard b t x y xv yv).run P w = .ok () w) (hrun : (binOp b t xv yv).run P w = .ok v w) :
    (execOp a.eval o).run P w = .ok (.value v) w := by
  subst hx; subst hy
  simp only [execOp, hop, Sem.run_bind, hg, hrun, Result.andThen_ok]; rfl
theorem exec_lss (t t2 : TypeId) (x y : Operand) (hop : o.op = .binOp .lss t x y t2) {k : IntKind} {m n : Int} (hx : a.eval x = .int k m) (hy : a.eval y = .int k n) : (execOp a.eval o).run P w = .ok (.value (.bool (decide (m < n)))) w :=
  exec_bin _ _ _ _ _ hop hx hy (by simp [eqGuard, go_sem]) (by simp [binOp, go_sem])
theorem exec_leq (t t2 : TypeId) (x y : Operand) (hop : o.op = .binOp .leq t x y t2) {k : IntKind} {m n : Int} (hx : a.eval x = .int k m) (hy : a.eval y = .int k n) : (execOp a.eval o).run P w = .ok (.value (.bool (decide (m ≤ n)))) w :=
  exec_bin _ _ _ _ _ hop hx hy (by simp [eqGuard, go_sem]) (by simp [binOp, go_sem])
theorem exec_gtr (t t2 : TypeId) (x y : Operand) (hop : o.op = .binOp .gtr t x y t2) {k : IntKind} {m n : Int} (hx : a.eval x = .int k m) (hy : a.eval y = .int k n) : (execOp a.eval o).run P w = .ok (.value (.bool (decide (n < m)))) w :=
  exec_bin _ _ _ _ _ hop hx hy (by simp [eqGuard, go_sem]) (by simp [binOp, go_sem])
theorem exec_geq (t t2 : TypeId) (x y : Operand) (hop : o.op = .binOp .geq t x y t2) {k : IntKind} {m n : Int} (hx : a.eval x = .int k m) (hy : a.eval y = .int k n) : (execOp a.eval o).run P w = .ok (.value (.bool (decide (n ≤ m)))) w :=
  exec_bin _ _ _ _ _ hop hx hy (by simp [eqGuard, go_sem]) (by simp [binOp, go_sem])
theorem exec_eqlI (t t2 : TypeId) (x y : Operand) (hop : o.op = .binOp .eql t x y t2) {k : IntKind} {m n : Int} (hx : a.eval x = .int k m) (hy : a.eval y = .int k n) : (execOp a.eval o).run P w = .ok (.value (.bool (m == n))) w :=
  exec_bin _ _ _ _ _ hop hx hy (by simp [eqGuard, go_sem]) (by simp [binOp, go_sem])
theorem exec_neqI (t t2 : TypeId) (x y : Operand) (hop : o.op = .binOp .neq t x y t2) {k : IntKind} {m n : Int} (hx : a.eval x = .int k m) (hy : a.eval y = .int k n) : (execOp a.eval o).run P w = .ok (.value (.bool (m != n))) w :=
  exec_bin _ _ _ _ _ hop hx hy (by simp [eqGuard, go_sem]) (by simp [binOp, go_sem])
theorem exec_eqlS (t t2 : TypeId) (x y : Operand) (hop : o.op = .binOp .eql t x y t2) {m n : ByteArray} (hx : a.eval x = .string m) (hy : a.eval y = .string n) : (execOp a.eval o).run P w = .ok (.value (.bool (m.toList == n.toList))) w :=
  exec_bin _ _ _ _ _ hop hx hy (by simp [eqGuard, go_sem]) (by simp [binOp, Op.stringOp, go_sem])
theorem exec_neqS (t t2 : TypeId) (x y : Operand) (hop : o.op = .binOp .neq t x y t2) {m n : ByteArray} (hx : a.eval x = .string m) (hy : a.eval y = .string n) : (execOp a.eval o).run P w = .ok (.value (.bool (m.toList != n.toList))) w :=
  exec_bin _ _ _ _ _ hop hx hy (by simp [eqGuard, go_sem]) (by simp [binOp, Op.stringOp, bne, go_sem])
theorem run_equalB (t : TypeId) (m n : Bool) (hT : P.underlying t = some .bool) : (Op.equal t (.bool m) (.bool n)).run P w = .ok (m == n) w := by
  unfold Op.equal
  rw [show Op.maxDepth = (Op.maxDepth - 1) + 1 from rfl]
  simp [Op.equalIn, run_underlying hT, go_sem]
theorem exec_eqlB (t t2 : TypeId) (x y : Operand) (hop : o.op = .binOp .eql t x y t2) {m n : Bool} (hx : a.eval x = .bool m) (hy : a.eval y = .bool n) (hT : P.underlying t = some .bool) : (execOp a.eval o).run P w = .ok (.value (.bool (m == n))) w :=
  exec_bin _ _ _ _ _ hop hx hy (by simp [eqGuard, go_sem]) (by simp [binOp, run_equalB t m n hT, Result.andThen, go_sem])
theorem exec_neqB (t t2 : TypeId) (x y : Operand) (hop : o.op = .binOp .neq t x y t2) {m n : Bool} (hx : a.eval x = .bool m) (hy : a.eval y = .bool n) (hT : P.underlying t = some .bool) : (execOp a.eval o).run P w = .ok (.value (.bool (m != n))) w :=
  exec_bin _ _ _ _ _ hop hx hy (by simp [eqGuard, go_sem]) (by simp [binOp, run_equalB t m n hT, Result.andThen, bne, go_sem])
theorem exec_add (t t2 : TypeId) (x y : Operand) (hop : o.op = .binOp .add t x y t2) {k : IntKind} {m n s : Int} (hx : a.eval x = .int k m) (hy : a.eval y = .int k n) (hs : k.wrap (m + n) = s) : (execOp a.eval o).run P w = .ok (.value (.int k s)) w :=
  exec_bin _ _ _ _ _ hop hx hy (by simp [eqGuard, go_sem]) (by subst hs; simp [binOp, go_sem])
theorem exec_sub (t t2 : TypeId) (x y : Operand) (hop : o.op = .binOp .sub t x y t2) {k : IntKind} {m n s : Int} (hx : a.eval x = .int k m) (hy : a.eval y = .int k n) (hs : k.wrap (m - n) = s) : (execOp a.eval o).run P w = .ok (.value (.int k s)) w :=
  exec_bin _ _ _ _ _ hop hx hy (by simp [eqGuard, go_sem]) (by subst hs; simp [binOp, go_sem])
theorem exec_not (t : TypeId) (x : Operand) (hop : o.op = .unOp .not t x) {b : Bool} (hx : a.eval x = .bool b) : (execOp a.eval o).run P w = .ok (.value (.bool !b)) w := by
  have hrun : (Op.unary .not (.bool b)).run P w = .ok (.bool !b) w := by simp [Op.unary, go_sem]
  simp only [execOp, hop, hx, Sem.run_bind, hrun]
  rfl
theorem exec_build (T : TypeId) (parts : Array (Nat × Operand)) (hop : o.op = .build T parts) (ps : Array (Nat × Value)) (hps : parts.map (fun x => (x.1, a.eval x.2)) = ps) {v : Value} (hrun : (Instr.build T ps).run P w = .ok v w) : (execOp a.eval o).run P w = .ok (.value v) w := by
  subst hps; simp only [execOp, hop, Sem.run_bind, hrun]; rfl
theorem exec_box (T : TypeId) (x : Operand) (hop : o.op = .box T x) {v : Value} (hx : a.eval x = v) : (execOp a.eval o).run P w = .ok (.value (.pointer (some ⟨w.heap.size, 0, none⟩))) (w.alloc (.cells v.cells T)) := by
  subst hx; simp [execOp, hop, Instr.box, Result.andThen, newVar, newRow, go_sem]
theorem exec_makeSliceC (T : TypeId) (l c : Value) (hop : o.op = .makeSlice T (.const l) (.const c)) {v : Value} {w' : World} (hrun : (Instr.makeSlice T l c).run P w = .ok v w') : (execOp a.eval o).run P w = .ok (.value v) w' := by
  have : (Instr.makeSlice T (a.eval (.const l)) (a.eval (.const c))).run P w = .ok v w' := hrun
  simp only [execOp, hop, Sem.run_bind, this]; rfl
theorem exec_index (T : TypeId) (x y : Operand) (hop : o.op = .indexAddr T x y) {e : TypeId} (hT : P.underlying T = some (.slice e)) {b q n c : Nat} {k : IntKind} {j sz : Nat} (hx : a.eval x = .slice (some ⟨b, q, none⟩) n c) (hy : a.eval y = .int k j) (hj : j < n) (hsz : (P.info? e).map (·.size) = some sz) :
    (execOp a.eval o).run P w = .ok (.value (.pointer (some ⟨b, q + j * sz, none⟩))) w := by
  obtain ⟨i, hi1, hi2⟩ := Option.map_eq_some_iff.1 hsz
  have hrun : (Instr.indexAt T (.slice (some ⟨b, q, none⟩) n c) (.int k j)).run P w = .ok (.pointer (some ⟨b, q + j * sz, none⟩)) w := by
    have hadd : (⟨b, q, none⟩ : Addr).add (j * sz) = ⟨b, q + j * sz, none⟩ := by
      unfold Addr.add; split
      · rename_i h; rw [h]; rfl
      · rfl
    rw [← hadd]
    simp [Instr.indexAt, run_underlying hT, sizeOf, typeInfo, hi1, hi2, Result.andThen, go_sem]
    intro h
    omega
  simp only [execOp, hop, hx, hy, Sem.run_bind, hrun]
  rfl
/-- An index into a row that begins its block, of one-cell elements. -/
theorem exec_index0 (T : TypeId) (x y : Operand) (hop : o.op = .indexAddr T x y) {e : TypeId} (hT : P.underlying T = some (.slice e)) {b n c : Nat} {k : IntKind} {j : Nat} (hx : a.eval x = .slice (some ⟨b, 0, none⟩) n c) (hy : a.eval y = .int k j) (hj : j < n) (hsz : (P.info? e).map (·.size) = some 1) :
    (execOp a.eval o).run P w = .ok (.value (.pointer (some ⟨b, j, none⟩))) w := by
  have := exec_index (P := P) (w := w) T x y hop hT hx hy hj hsz
  rwa [Nat.mul_one, Nat.zero_add] at this
theorem exec_index1 (T : TypeId) (x y : Operand) (hop : o.op = .indexAddr T x y) {e : TypeId} (hT : P.underlying T = some (.slice e)) {b q n c : Nat} {k : IntKind} {j : Nat} (hx : a.eval x = .slice (some ⟨b, q, none⟩) n c) (hy : a.eval y = .int k j) (hj : j < n) (hsz : (P.info? e).map (·.size) = some 1) :
    (execOp a.eval o).run P w = .ok (.value (.pointer (some ⟨b, q + j, none⟩))) w := by
  have := exec_index (P := P) (w := w) T x y hop hT hx hy hj hsz
  rwa [Nat.mul_one] at this
/-- s[:hi] of a slice. -/
theorem run_sliceTo (T : TypeId) {e : TypeId} (hT : P.underlying T = some (.slice e)) {sz : Nat} (hsz : (P.info? e).map (·.size) = some sz) (ad : Addr) (n c j : Nat) (k : IntKind) (hj : j ≤ c) :
    (Instr.sliceAt T (.slice (some ad) n c) none (some (.int k j)) none).run P w = .ok (.slice (some ad) j c) w := by
  obtain ⟨i, hi1, hi2⟩ := Option.map_eq_some_iff.1 hsz
  have he : P.elem T = e := by simp [Program.elem, hT]
  have hT' : P.underlying T = some (.slice (P.elem T)) := by rw [he]; exact hT
  rw [run_sliceAt_slice (P := P) w T _ _ _ _ hT', run_slice_h (P := P) w T (some ad) n c hT' k j (by omega) (by omega), he]
  have hs : (sizeOf e).run P w = .ok sz w := by simp [sizeOf, typeInfo, hi1, hi2]
  have ha : ad.add 0 = ad := rfl
  rw [hs, Result.andThen_ok]
  simp [sliced, ha]
theorem exec_sliceTo (T : TypeId) (x y : Operand) (hop : o.op = .slice T x none (some y) none) {e : TypeId} (hT : P.underlying T = some (.slice e)) {sz : Nat} (hsz : (P.info? e).map (·.size) = some sz) {ad : Addr} {n c j : Nat} {k : IntKind} (hx : a.eval x = .slice (some ad) n c) (hy : a.eval y = .int k j) (hj : j ≤ c) :
    (execOp a.eval o).run P w = .ok (.value (.slice (some ad) j c)) w := by
  have hrun := run_sliceTo (P := P) (w := w) T hT hsz ad n c j k hj
  simp only [execOp, hop, hx, Option.map_none, Option.map_some, hy, Sem.run_bind, hrun]
  rfl
end
end Go.Proofs.YtlkmpjanchhahaaDoor
