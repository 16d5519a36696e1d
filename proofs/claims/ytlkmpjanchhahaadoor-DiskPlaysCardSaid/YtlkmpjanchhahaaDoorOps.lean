/- Laws of the walk for whole arrays and structs of many cells (build, alloc, box, store, load), each at one operation of a plain region. -/
import Derived.WalkKit
import Derived.Deep.WholeRow
import Derived.Deep.MidRow
import Derived.Laws.CopyOwn
import Derived.Maps.AppendAt
import Derived.StillTailTactics
import Derived.Stop.BytesEq
import Derived.Test.YtlkmpjanchhahaaDoorLib
namespace Go.Proofs.YtlkmpjanchhahaaDoor
open Go.RowKit
section
variable {P : Program} {ops : Array Oper} {rest : List Oper} {o : Oper} {a : Act} {w : World} {Q : Exit → Act → World → Prop} {K : Act → World → Prop} {E : Prop}

theorem wpl_val (hg : o.guard = none) {v : Value} {w' : World} (hrun : (execOp a.eval o).run P w = .ok (.value v) w') (h : wpList P ops Q rest (a.put o.dst v) w') : wpList P ops Q (o :: rest) a w :=
  wpList_plain hg fun K hK => by unfold Oper.wp; rw [hrun]; exact hK _ _ h
theorem wpl_skip (hg : o.guard = none) {w' : World} (hrun : (execOp a.eval o).run P w = .ok .skip w') (h : wpList P ops Q rest (a.put o.dst undef) w') : wpList P ops Q (o :: rest) a w :=
  wpList_plain hg fun K hK => by unfold Oper.wp; rw [hrun]; exact hK _ _ h
/-- The same as one step of a region that draws its order. -/
theorem step_val (hg : o.guard = none) {v : Value} {w' : World} (hrun : (execOp a.eval o).run P w = .ok (.value v) w') (h : K (a.put o.dst v) w') : if Region.wanted o (yielded ops a.tmps) = true then Oper.wp P o a w K Q else E := by
  rw [if_pos (by simp [Region.wanted, hg])]; unfold Oper.wp; rw [hrun]; exact h
theorem step_skip (hg : o.guard = none) {w' : World} (hrun : (execOp a.eval o).run P w = .ok .skip w') (h : K (a.put o.dst undef) w') : if Region.wanted o (yielded ops a.tmps) = true then Oper.wp P o a w K Q else E := by
  rw [if_pos (by simp [Region.wanted, hg])]; unfold Oper.wp; rw [hrun]; exact h

theorem wpl_build (hg : o.guard = none) (t : TypeId) (parts : Array (Nat × Operand)) (hop : o.op = .build t parts) (ps : Array (Nat × Value)) (hps : parts.map (fun x => (x.1, a.eval x.2)) = ps) (v : Value)
    (hrun : (Instr.build t ps).run P w = .ok v w) (h : wpList P ops Q rest (a.put o.dst v) w) : wpList P ops Q (o :: rest) a w := by
  refine wpl_val hg (v := v) (w' := w) ?_ h
  subst hps
  simp only [execOp, hop]
  rw [Sem.run_bind, hrun]
  simp [Result.andThen]
theorem wpl_alloc (hg : o.guard = none) (t : TypeId) (hop : o.op = .alloc t) (v : Value) (hz : (zeroValue t).run P w = .ok v w)
    (h : wpList P ops Q rest (a.put o.dst (.pointer (some ⟨w.heap.size, 0, none⟩))) (w.alloc (.cells v.cells t))) : wpList P ops Q (o :: rest) a w := by
  refine wpl_val hg (v := .pointer (some ⟨w.heap.size, 0, none⟩)) (w' := w.alloc (.cells v.cells t)) ?_ h
  simp only [execOp, hop, Instr.alloc]
  simp [hz, Result.andThen, newVar, newRow, go_sem]
theorem wpl_box (hg : o.guard = none) (t : TypeId) (x : Operand) (hop : o.op = .box t x) (v : Value) (hx : a.eval x = v)
    (h : wpList P ops Q rest (a.put o.dst (.pointer (some ⟨w.heap.size, 0, none⟩))) (w.alloc (.cells v.cells t))) : wpList P ops Q (o :: rest) a w := by
  refine wpl_val hg (v := .pointer (some ⟨w.heap.size, 0, none⟩)) (w' := w.alloc (.cells v.cells t)) ?_ h
  subst hx
  simp [execOp, hop, Instr.box, Result.andThen, newVar, newRow, go_sem]
/-- A whole value stored into a block. -/
theorem wpl_store_row (hg : o.guard = none) (t : TypeId) (x y : Operand) (hop : o.op = .store t x y) (g : Nat) (hx : a.eval x = .pointer (some ⟨g, 0, none⟩)) (vs : List Value) (hy : a.eval y = .agg vs.toArray)
    (T : TypeId) (old : Array Value) (hb : Blk w g T old) (ho : old.size = vs.length) (hi : (P.info? t).map (·.size) = some vs.length) (h1 : ∀ v ∈ vs, v.oneCell' = true)
    (h : wpList P ops Q rest (a.put o.dst undef) (w.setRow g vs.toArray)) : wpList P ops Q (o :: rest) a w := by
  refine wpl_skip hg (w' := w.setRow g vs.toArray) ?_ h
  have := run_storeVar_row (P := P) w g T t old vs.toArray hb (by simpa using hi) (by simpa using ho) (all_oneCell_toArray h1)
  simp only [execOp, hop, hx, hy, Instr.storeAt, Instr.sureAddr, Sem.run_bind, Sem.run_pure, Result.andThen_ok, this]
/-- A whole value stored into the block that was made last. -/
theorem wpl_store_new (hg : o.guard = none) (t : TypeId) (x y : Operand) (hop : o.op = .store t x y) (w0 : World) (zs : List Value) (T : TypeId) (hw : w = w0.alloc (.cells zs.toArray T)) (hx : a.eval x = .pointer (some ⟨w0.heap.size, 0, none⟩)) (vs : List Value) (hy : a.eval y = .agg vs.toArray)
    (ho : zs.length = vs.length) (hi : (P.info? t).map (·.size) = some vs.length) (h1 : ∀ v ∈ vs, v.oneCell' = true)
    (h : wpList P ops Q rest (a.put o.dst undef) (w0.alloc (.cells vs.toArray T))) : wpList P ops Q (o :: rest) a w := by
  subst hw
  exact wpl_store_row hg t x y hop _ hx vs hy T _ (Blk.new _ _ _) (by simpa using ho) hi h1 (by rw [World.setRow_alloc_new]; exact h)
/-- Many cells loaded as one value. -/
theorem wpl_load (hg : o.guard = none) (t : TypeId) (x : Operand) (hop : o.op = .load t x) (b off : Nat) (hx : a.eval x = .pointer (some ⟨b, off, none⟩)) (cs : List Value) (d : TypeDesc) (hc : w.rangeAt b off cs)
    (hu : P.underlying t = some d) (hd : d.isRow = true) (hi : (P.info? t).map (·.size) = some cs.length) (h : wpList P ops Q rest (a.put o.dst (.agg cs.toArray)) w) : wpList P ops Q (o :: rest) a w :=
  wpList_load_mid hg t x hop b off hx cs d hc hu hd hi h
end

theorem Blk.range {w : World} {b : Nat} {t : TypeId} {cs : Array Value} (h : Blk w b t cs) (off n : Nat) : w.rangeAt b off ((cs.toList.drop off).take n) := by
  intro j v hj
  rw [h.cell]
  rw [List.getElem?_take] at hj
  split at hj
  · rw [List.getElem?_drop] at hj; simpa using hj
  · cases hj
theorem Blk.setRow {w : World} {g : Nat} {t : TypeId} {old : Array Value} (h : Blk w g t old) (cs : Array Value) : Blk (w.setRow g cs) g t cs := setRow_heap w g old cs t (0, 0) h
theorem Blk.setRow_far {w : World} {b g : Nat} {t : TypeId} {cs : Array Value} (h : Blk w b t cs) (hne : b ≠ g) (xs : Array Value) : Blk (w.setRow g xs) b t cs := (setRow_other w g b xs hne).trans h
theorem Upd.setRow {S : Nat → Prop} {a w : World} (h : Upd S a w) {g : Nat} (hp : g < a.heap.size → S g) (xs : Array Value) : Upd S a (w.setRow g xs) :=
  h.then (T := fun k => k = g) ⟨rfl, rfl, rfl, by simp, fun k _ hk => setRow_other _ _ _ _ hk⟩ (fun _ hi e => by subst e; exact hp hi)

/-! ### A region that draws its order, walked by hand: the operations are read off the list -/
section
variable {P : Program} {md : Region.Mode} {l : List Oper} {Q : Exit → Act → World → Prop} {fuel : Nat} {listed : Array Bool} {a : Act} {w : World}
theorem any_take {i : Nat} {oi : Oper} (v : Value) (hi : l[i]? = some oi) (hs : Region.noSelect l.toArray = true) (hf : Region.free md l.toArray listed i = true) (hr : (Region.ready md l.toArray listed).contains i = true)
    (hQ : ∀ c a w, Q (.panic c) (a.put oi.dst v) w → Q (.panic c) a w) (hw : Region.wanted oi (yielded l.toArray a.tmps) = true) (hy : ∀ W, (execOp a.eval oi).run P W = .ok (.value v) W)
    (h : wpAny P md l.toArray Q fuel (listed.setIfInBounds i true) (a.put oi.dst v) w) : wpAny P md l.toArray Q (fuel + 1) listed a w :=
  wpAny_take (by simpa using hi) hs hf hr hQ (Or.inl ⟨hw, hy⟩) h
theorem any_one_wp {i : Nat} {oi : Oper} (hi : l[i]? = some oi) (hg : oi.guard = none) (hr : Region.ready md l.toArray listed = [i])
    (h : ∀ K : Act → World → Prop, (∀ a w, wpAny P md l.toArray Q fuel (listed.setIfInBounds i true) a w → K a w) → oi.wp P a w K Q) : wpAny P md l.toArray Q (fuel + 1) listed a w := by
  refine wpAny_ready hr (by simp) (AllReady.cons (o := oi) (by simpa using hi) (fun K hK => ?_) AllReady.nil)
  rw [if_pos (by simp [Region.wanted, hg])]
  exact h K hK
theorem any_one {i : Nat} {oi : Oper} (hi : l[i]? = some oi) (hg : oi.guard = none) (hr : Region.ready md l.toArray listed = [i]) {v : Value} {w' : World} (hrun : (execOp a.eval oi).run P w = .ok (.value v) w')
    (h : wpAny P md l.toArray Q fuel (listed.setIfInBounds i true) (a.put oi.dst v) w') : wpAny P md l.toArray Q (fuel + 1) listed a w :=
  any_one_wp hi hg hr fun K hK => by unfold Oper.wp; rw [hrun]; exact hK _ _ h
theorem any_one_skip {i : Nat} {oi : Oper} (hi : l[i]? = some oi) (hg : oi.guard = none) (hr : Region.ready md l.toArray listed = [i]) {w' : World} (hrun : (execOp a.eval oi).run P w = .ok .skip w')
    (h : wpAny P md l.toArray Q fuel (listed.setIfInBounds i true) (a.put oi.dst undef) w') : wpAny P md l.toArray Q (fuel + 1) listed a w :=
  any_one_wp hi hg hr fun K hK => by unfold Oper.wp; rw [hrun]; exact hK _ _ h
theorem any_two {i j : Nat} {oi oj : Oper} (hi : l[i]? = some oi) (hj : l[j]? = some oj) (hgi : oi.guard = none) (hgj : oj.guard = none) (hr : Region.ready md l.toArray listed = [i, j])
    {vi vj : Value} {wi wj : World} (hruni : (execOp a.eval oi).run P w = .ok (.value vi) wi) (hrunj : (execOp a.eval oj).run P w = .ok (.value vj) wj)
    (h1 : wpAny P md l.toArray Q fuel (listed.setIfInBounds i true) (a.put oi.dst vi) wi) (h2 : wpAny P md l.toArray Q fuel (listed.setIfInBounds j true) (a.put oj.dst vj) wj) : wpAny P md l.toArray Q (fuel + 1) listed a w := by
  refine wpAny_ready hr (by simp) (AllReady.cons (o := oi) (by simpa using hi) (fun K hK => ?_) (AllReady.cons (o := oj) (by simpa using hj) (fun K hK => ?_) AllReady.nil))
  · rw [if_pos (by simp [Region.wanted, hgi])]
    unfold Oper.wp; rw [hruni]; exact hK _ _ h1
  · rw [if_pos (by simp [Region.wanted, hgj])]
    unfold Oper.wp; rw [hrunj]; exact hK _ _ h2
/-- What a load of many cells yields. -/
theorem exec_load_many {o : Oper} (t : TypeId) (x : Operand) (hop : o.op = .load t x) (b off : Nat) (hx : a.eval x = .pointer (some ⟨b, off, none⟩)) (cs : List Value) (d : TypeDesc) (hc : w.rangeAt b off cs)
    (hu : P.underlying t = some d) (hd : d.isRow = true) (hi : (P.info? t).map (·.size) = some cs.length) : (execOp a.eval o).run P w = .ok (.value (.agg cs.toArray)) w := by
  unfold execOp
  simp only [hop, hx, Instr.loadAt, Instr.sureAddr, Sem.run_bind, Sem.run_pure, Result.andThen_ok, run_loadVar_mid w b off t cs d hc hu hd hi]
theorem fold_set (us : List Value) : ∀ (k : Nat) (cs : Array Value) (n : Nat), ((us.zipIdx k).foldl (fun cs (p : Value × Nat) => cs.setIfInBounds (0 + p.2) p.1) cs)[n]? = if k ≤ n ∧ n < k + us.length ∧ n < cs.size then us[n - k]? else cs[n]? := by
  induction us with
  | nil => intro k cs n; simp; intro h1 h2 h3; omega
  | cons u us ih =>
    intro k cs n
    simp only [List.zipIdx_cons, List.foldl_cons, List.length_cons]
    rw [ih]
    simp only [Nat.zero_add, Array.size_setIfInBounds, Array.getElem?_setIfInBounds]
    by_cases h : k + 1 ≤ n ∧ n < k + 1 + us.length ∧ n < cs.size
    · rw [if_pos h, if_pos (by omega)]
      have e : n - k = (n - (k + 1)) + 1 := by omega
      rw [e, List.getElem?_cons_succ]
    · rw [if_neg h]
      by_cases hk : k = n
      · subst hk
        simp
        by_cases hs : k < cs.size <;> simp [hs]
      · rw [if_neg hk, if_neg (by omega)]
/-- A slice literal of one element of many cells. -/
theorem run_buildSlice_one (t e : TypeId) (ht : P.underlying t = some (.slice e)) (vs : List Value) (z : Value) (hz : (P.info? e).map (fun i => (i.zero, i.size)) = some (some z, vs.length)) (h0 : 0 < vs.length) (hbig : vs.length ≤ 16777216) :
    (Instr.buildSlice t 1 #[(0, .agg vs.toArray)]).run P w = .ok (.slice (some ⟨w.heap.size, 0, none⟩) 1 1) (w.alloc (.cells vs.toArray e)) := by
  cases hq : P.info? e with
  | none => simp [hq] at hz
  | some i =>
    simp [hq] at hz
    obtain ⟨hz1, hz2⟩ := hz
    have hf : ∀ (cs : Array Value), cs.size = vs.length → Instr.fill (fun i => some (i * vs.length, vs.length)) cs [(0, .agg vs.toArray)] = some vs.toArray := by
      intro cs hcs
      unfold Instr.fill
      simp only [Value.cells, List.size_toArray, Nat.zero_mul]
      rw [if_neg (by simp [hcs])]
      unfold Instr.fill
      congr 1
      rw [← Array.foldl_toList, Array.toList_zipIdx]
      apply Array.ext_getElem?
      intro n
      rw [fold_set]
      simp only [hcs, Nat.zero_add, Nat.zero_le, true_and, Nat.sub_zero]
      by_cases hn : n < vs.length
      · rw [if_pos ⟨hn, hn⟩]; simp
      · rw [if_neg (fun h => hn h.1)]
        rw [Array.getElem?_eq_none (by omega), Array.getElem?_eq_none (by simp; omega)]
    have hne : ¬ vs.length = 0 := by omega
    have hs : (sizeOf e).run P w = .ok vs.length w := by simp [sizeOf, typeInfo, hq, hz2]
    have hzz : (zeroValue e).run P w = .ok z w := by simp [zeroValue, typeInfo, hq, hz1]
    have hb : ¬ 16777216 < vs.length := by omega
    unfold Instr.buildSlice
    simp only [Sem.run_bind, run_underlying ht, Result.andThen_ok, hs]
    simp [hne, hb, hzz, hf, newRow, newObj]
    rfl
/-- append to a row of the call's own, as one operation: what the row holds then, and where it lies. -/
theorem wp_append_at {o : Oper} {K : Act → World → Prop} {Q : Exit → Act → World → Prop} (s x : Operand) (t : TypeId) (ho : o.op = .call { callee := .builtin .append, args := #[s, x], argTypes := #[t, t] })
    (base : Nat) (e : TypeId) (z : Value) (size bytes : Nat) (ht : P.underlying t = some (.slice e)) (hi : (P.info? e).map (fun i => (i.zero, i.size, i.bytes)) = some (some z, size, bytes)) (hzs : z.cells.size = size) (hsz : 0 < size)
    (v : Value) (n : Nat) (xs : List Value) (hs : a.eval s = v) (hown : w.ownsRow base e size v n xs)
    (ad : Addr) (m c : Nat) (news : List Value) (hx : a.eval x = .slice (some ad) m c) (hl : news.length = m * size) (hnews : ∀ j u, news[j]? = some u → w.cell? (ad.add j) = some u) (h1 : ∀ u ∈ news, u.oneCell' = true)
    (h63 : n + m ≤ 9223372036854775807) (hbytes : (n + m) * bytes ≤ 140737488355328) (hbase : base ≤ w.heap.size)
    (h : ∀ v' w', w'.ownsRow base e size v' (n + m) (xs ++ news) → w.grownBy w' v.ownBlock → (v'.ownBlock = v.ownBlock ∨ v'.ownBlock = some w.heap.size) → K (a.put o.dst v') w') : o.wp P a w K Q := by
  obtain ⟨i, hi1, hz, hsize, hby⟩ := info_parts hi
  obtain ⟨v', w', hr, h2, h3, _, h5⟩ := run_append_own_at (P := P) w base t o.type e i z size bytes ht hi1 hz hsize hby hzs hsz v n xs hown ad m c news hl hnews h1 (by unfold maxLen; omega) hbytes hbase
  unfold Oper.wp execOp
  simp only [ho, resolve, invoke, builtin, Sem.run_bind, Sem.run_pure, Result.andThen_ok, List.map_toArray, List.map_cons, List.map_nil, hs, hx, hr]
  exact h v' w' h2 h3 h5
theorem exec_load {o : Oper} (t : TypeId) (x : Operand) (hop : o.op = .load t x) {v : Value} {w' : World} (hrun : (Instr.loadAt t (a.eval x)).run P w = .ok v w') : (execOp a.eval o).run P w = .ok (.value v) w' := by
  simp only [execOp, hop, Sem.run_bind, hrun]; rfl
theorem exec_buildSlice {o : Oper} (t : TypeId) (n : Nat) (parts : Array (Nat × Operand)) (hop : o.op = .buildSlice t n parts) (ps : Array (Nat × Value)) (hps : parts.map (fun x => (x.1, a.eval x.2)) = ps) {v : Value} {w' : World} (hrun : (Instr.buildSlice t n ps).run P w = .ok v w') : (execOp a.eval o).run P w = .ok (.value v) w' := by
  subst hps
  simp only [execOp, hop]
  rw [Sem.run_bind, hrun]
  rfl
end
section
variable {P : Program} {ops : Array Oper} {rest : List Oper} {o : Oper} {a : Act} {w : World} {Q : Act → Prop}
/-- One operation of the quiet head of a region that draws its order. -/
theorem still_val (hg : o.guard = none) {v : Value} (hrun : (execOp a.eval o).run P w = .ok (.value v) w) (h : wpStill P ops w Q rest (a.put o.dst v)) : wpStill P ops w Q (o :: rest) a :=
  wpStill_step fun K hK => by rw [if_pos (by simp [Region.wanted, hg])]; unfold Oper.still; rw [hrun, Oper.stillUpon_value]; exact hK _ h
theorem exec_lookup {o : Oper} (t : TypeId) (x ix : Operand) (ok : Bool) (hop : o.op = .lookup t x ix ok) {v : Value} {w' : World} (hrun : (Instr.lookup t (a.eval x) (a.eval ix) ok).run P w = .ok v w') : (execOp a.eval o).run P w = .ok (.value v) w' := by
  simp only [execOp, hop, Sem.run_bind, hrun]; rfl
theorem exec_mapUpdate {o : Oper} (t : TypeId) (x ix y : Operand) (hop : o.op = .mapUpdate t x ix y) {w' : World} (hrun : (Instr.mapUpdate t (a.eval x) (a.eval ix) (a.eval y)).run P w = .ok () w') : (execOp a.eval o).run P w = .ok .skip w' := by
  simp only [execOp, hop, Sem.run_bind, hrun]; rfl
theorem exec_delete {o : Oper} (x ix : Operand) (t k : TypeId) (hop : o.op = .call { callee := .builtin .delete, args := #[x, ix], argTypes := #[t, k] }) {v : Value} {w' : World} (hrun : (Builtin.delete_ #[t, k] o.type #[a.eval x, a.eval ix]).run P w = .ok v w') : (execOp a.eval o).run P w = .ok (.value v) w' := by
  simp only [execOp, hop, resolve, invoke, builtin, Sem.run_bind, Sem.run_pure, Result.andThen_ok, List.map_toArray, List.map_cons, List.map_nil, hrun]
end
/-- A call of a function of the program, as one operation. -/
theorem wp_calls {P : Program} {o : Oper} {a : Act} {w : World} {K : Act → World → Prop} {Q : Exit → Act → World → Prop} (f : FuncId) (xs : Array Operand) (ts : Array TypeId) (ho : o.op = .call { callee := .value (.func f), args := xs, argTypes := ts })
    (fn : Func) (hf : P.funcs[f]? = some fn) (hname : (fn.name == "runtime.NumGoroutine") = false) (hb : fn.body.isSome = true)
    (args : Array Value) (ha : xs.map a.eval = args) {R : Ending → World → Prop} (hc : Calls P f args w R) (hR : ∀ e w', R e w' → ∃ v, e = .returned v ∧ K (a.put o.dst v) w') : o.wp P a w K Q := by
  subst ha
  obtain ⟨c, hb⟩ := Option.isSome_iff_exists.1 hb
  have h1 : fn.name ≠ "runtime.NumGoroutine" := by simpa using hname
  have hcf : ∀ args, (callFunc f args).run P w = .ok (.enter f args) w := fun args => by simp [callFunc, hf, h1, hb]
  unfold Oper.wp execOp
  simp [ho, resolve, invoke, Act.eval, go_sem]
  have e1 : (callFunc f (Array.map a.eval xs)).run P w = .ok (.enter f (Array.map a.eval xs)) w := hcf _
  rw [e1]
  rw [Oper.upon_enter]
  refine hc.mono ?_
  intro e w' hr
  obtain ⟨v, rfl, hk⟩ := hR e w' hr
  exact hk
theorem any_two_wp {P : Program} {md : Region.Mode} {l : List Oper} {Q : Exit → Act → World → Prop} {fuel : Nat} {listed : Array Bool} {a : Act} {w : World} {i j : Nat} {oi oj : Oper} (hi : l[i]? = some oi) (hj : l[j]? = some oj) (hgi : oi.guard = none) (hgj : oj.guard = none) (hr : Region.ready md l.toArray listed = [i, j])
    (h1 : ∀ K : Act → World → Prop, (∀ a w, wpAny P md l.toArray Q fuel (listed.setIfInBounds i true) a w → K a w) → oi.wp P a w K Q) (h2 : ∀ K : Act → World → Prop, (∀ a w, wpAny P md l.toArray Q fuel (listed.setIfInBounds j true) a w → K a w) → oj.wp P a w K Q) : wpAny P md l.toArray Q (fuel + 1) listed a w := by
  refine wpAny_ready hr (by simp) (AllReady.cons (o := oi) (by simpa using hi) (fun K hK => ?_) (AllReady.cons (o := oj) (by simpa using hj) (fun K hK => ?_) AllReady.nil))
  · rw [if_pos (by simp [Region.wanted, hgi])]
    exact h1 K hK
  · rw [if_pos (by simp [Region.wanted, hgj])]
    exact h2 K hK
theorem wp_run {P : Program} {o : Oper} {a : Act} {w : World} {K : Act → World → Prop} {Q : Exit → Act → World → Prop} {v : Value} {w' : World} (hrun : (execOp a.eval o).run P w = .ok (.value v) w') (h : K (a.put o.dst v) w') : o.wp P a w K Q := by
  unfold Oper.wp; rw [hrun]; exact h
end Go.Proofs.YtlkmpjanchhahaaDoor
