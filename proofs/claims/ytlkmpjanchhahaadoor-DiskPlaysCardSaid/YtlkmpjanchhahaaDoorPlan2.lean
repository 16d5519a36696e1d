/- A region that draws its order, walked in one planned order; the last operation (a store) may end what the loads rest on. One check by the kernel for the whole plan. -/
import Derived.Test.YtlkmpjanchhahaaDoorFrame0
namespace Go.Proofs.YtlkmpjanchhahaaDoor
open Go Go.RowKit
section
variable {P : Program} {md : Region.Mode} {ops : Array Oper} {Q : Exit → Act → World → Prop} {m : Nat} {S : World → Prop}

/-- S holds as long as operation m has not come up. -/
def Till (m : Nat) (S : World → Prop) (L : Array Bool) (w : World) : Prop := L.getD m false = true ∨ S w

/-- Whatever order is picked from here on; behind each operation S holds, as long as m has not come up. -/
def wpAnyL (P : Program) (md : Region.Mode) (ops : Array Oper) (Q : Exit → Act → World → Prop) (m : Nat) (S : World → Prop) : Nat → Array Bool → Act → World → Prop
  | 0, L, a, w => Region.ready md ops L = [] ∧ Q .normal a w
  | n + 1, L, a, w => (Region.ready md ops L = [] → Q .normal a w) ∧
      ∀ j ∈ Region.ready md ops L, wpOp P ops Q j (fun a' w' => Till m S (L.setIfInBounds j true) w' ∧ wpAnyL P md ops Q m S n (L.setIfInBounds j true) a' w') a w

theorem any_of_L : ∀ (n : Nat) (L : Array Bool) (a : Act) (w : World), wpAnyL P md ops Q m S n L a w → wpAny P md ops Q n L a w
  | 0, _, _, _, h => h
  | n + 1, _, _, _, h => ⟨h.1, fun j hj => wpOp_mono (fun a' w' h' => any_of_L n _ a' w' h'.2) (h.2 j hj)⟩

/-- What yields its value wherever T holds comes first, if T holds as long as it has not come up. -/
theorem firstL {i : Nat} {oi : Oper} {v : Value} (him : i ≠ m) (hi : ops[i]? = some oi) (hs : Region.noSelect ops = true) (hQ : ∀ c a w, Q (.panic c) (a.put oi.dst v) w → Q (.panic c) a w)
    (T : World → Prop) (J : Array Bool → Prop) (hJ : ∀ L j, J L → L.getD i true = false → j ∈ Region.ready md ops L → j ≠ i → J (L.setIfInBounds j true)) (hT : ∀ L w, J L → Till m S L w → T w)
    : ∀ (n : Nat) (L : Array Bool) (a : Act) (w : World),
      (∀ j oj, ops[j]? = some oj → j ≠ i → L.getD j true = false → (∀ e ∈ oj.after, Region.binds md e = true → e.on ≠ i) → oi.apart ops oj = true) →
      J L → Till m S L w → i ∈ Region.ready md ops L → YieldsIf P ops T oi v a →
      wpAnyL P md ops Q m S n (L.setIfInBounds i true) (a.put oi.dst v) w → wpAnyL P md ops Q m S (n + 1) L a w := by
  have sel := Region.noSelect_spec hs
  have hN : ∀ (L : Array Bool) (w : World), Till m S L w → Till m S (L.setIfInBounds i true) w := fun L w h => h.imp (fun h => by rw [getD_set_ne false him]; exact h) id
  intro n
  induction n with
  | zero =>
    intro L a w _ hJL hSt hr hy H
    refine ⟨fun h => (by rw [h] at hr; cases hr), fun j hj => ?_⟩
    by_cases hji : j = i
    · subst hji; exact hy.wpOp hi (hT L w hJL hSt) ⟨hN L w hSt, H⟩
    · have h1 := ready_mono hj hji
      rw [H.1] at h1
      cases h1
  | succ n ih =>
    intro L a w hfree hJL hSt hr hy H
    refine ⟨fun h => (by rw [h] at hr; cases hr), fun j hj => ?_⟩
    by_cases hji : j = i
    · subst hji; exact hy.wpOp hi (hT L w hJL hSt) ⟨hN L w hSt, H⟩
    · obtain ⟨hjun, oj, hoj, hall⟩ := mem_ready.1 hj
      have hiun := (mem_ready.1 hr).1
      have hwait : ∀ e ∈ oj.after, Region.binds md e = true → e.on ≠ i := fun e he hb heq => by
        have h1 := hall e he hb
        rw [heq] at h1
        rcases Nat.lt_or_ge i L.size with h' | h'
        · simp [h'] at hiun h1; rw [hiun] at h1; cases h1
        · simp [Array.getElem?_eq_none h'] at h1
      have h2 := wpOp_putIf hoj (hfree j oj hoj hji hjun hwait) (fun cs b => sel i oi cs b hi) (fun cs b => sel j oj cs b hoj) hQ hy (H.2 j (ready_mono hj hji))
      have hun' : ∀ k, k ≠ j → (L.setIfInBounds j true).getD k true = L.getD k true := fun k hk => getD_set_ne true (Ne.symm hk)
      refine wpOp_mono (fun a' w' h3 => ?_) h2
      obtain ⟨h4, h5, h6⟩ := h3
      have hTill : Till m S (L.setIfInBounds j true) w' := by
        rcases h5 with h5 | h5
        · left
          rw [Array.setIfInBounds_comm _ _ (Ne.symm hji), getD_set_ne false him] at h5
          exact h5
        · exact .inr h5
      refine ⟨hTill, ih (L.setIfInBounds j true) a' w' ?_ (hJ L j hJL hiun hj hji) hTill (ready_mono hr (Ne.symm hji)) h4 ?_⟩
      · intro k ok hk hki hkun hno
        refine hfree k ok hk hki ?_ hno
        by_cases hkj : k = j
        · subst hkj; exact hjun
        · rw [hun' k hkj] at hkun; exact hkun
      · rw [Array.setIfInBounds_comm _ _ hji]
        exact h6

/-- Does operation m wait for operation i? (No operation m: nothing is asked.) -/
def waitsFor (md : Region.Mode) (ops : Array Oper) (m i : Nat) : Bool := ((ops[m]?).map fun o => o.after.any fun e => Region.binds md e && e.on == i).getD true

/-- Is the plan an order in which each operation of kind 0 (it yields the same everywhere) or 1 (it yields the same where S holds) may be taken first, and each other one comes up alone? Kind 3: operation m, behind which S need not hold. -/
def planOK2 (md : Region.Mode) (ops : Array Oper) (m : Nat) : Array Bool → List (Nat × Nat) → Bool
  | L, [] => (Region.ready md ops L).isEmpty
  | L, (i, 0) :: r => (ops[i]?).isSome && i != m && Region.free md ops L i && (Region.ready md ops L).contains i && planOK2 md ops m (L.setIfInBounds i true) r
  | L, (i, 1) :: r => (ops[i]?).isSome && i != m && waitsFor md ops m i && !L.getD m false && Region.free md ops L i && (Region.ready md ops L).contains i && planOK2 md ops m (L.setIfInBounds i true) r
  | L, (i, 3) :: r => (ops[i]?).isSome && i == m && decide (i < L.size) && (Region.ready md ops L == [i]) && planOK2 md ops m (L.setIfInBounds i true) r
  | L, (i, _) :: r => (ops[i]?).isSome && (Region.ready md ops L == [i]) && planOK2 md ops m (L.setIfInBounds i true) r

/-- The plan carried out. -/
def wpPl (P : Program) (ops : Array Oper) (Q : Exit → Act → World → Prop) (S : World → Prop) : List (Nat × Nat) → Act → World → Prop
  | [], a, w => Q .normal a w
  | (i, 0) :: r, a, w => ∀ o, ops[i]? = some o → ∃ v, YieldsIf P ops (fun _ => True) o v a ∧ wpPl P ops Q S r (a.put o.dst v) w
  | (i, 1) :: r, a, w => ∀ o, ops[i]? = some o → ∃ v, YieldsIf P ops S o v a ∧ wpPl P ops Q S r (a.put o.dst v) w
  | (i, 3) :: r, a, w => ∀ o, ops[i]? = some o → ∀ K : Act → World → Prop, (∀ a' w', wpPl P ops Q S r a' w' → K a' w') → if Region.wanted o (yielded ops a.tmps) = true then Oper.wp P o a w K Q else K (a.put o.dst undef) w
  | (i, _) :: r, a, w => ∀ o, ops[i]? = some o → ∀ K : Act → World → Prop, (∀ a' w', S w' → wpPl P ops Q S r a' w' → K a' w') → if Region.wanted o (yielded ops a.tmps) = true then Oper.wp P o a w K Q else K (a.put o.dst undef) w

theorem panic_put2 (hQ : ∀ c (t u : Array Value) d w, Q (.panic c) ⟨t, d⟩ w → Q (.panic c) ⟨u, d⟩ w) {c : List PanicEntry} {a : Act} {d : Option Tmp} {v : Value} {w : World} (h : Q (.panic c) (a.put d v) w) : Q (.panic c) a w := by
  cases d with
  | none => exact h
  | some d => exact hQ c _ _ _ w h
theorem L_done {L : Array Bool} {a : Act} {w : World} (hr : Region.ready md ops L = []) (h : Q .normal a w) : ∀ n, wpAnyL P md ops Q m S n L a w
  | 0 => ⟨hr, h⟩
  | _ + 1 => ⟨fun _ => h, by rw [hr]; simp⟩
theorem L_alone {i n : Nat} {o : Oper} {L : Array Bool} {a : Act} {w : World} (ho : ops[i]? = some o) (hr : Region.ready md ops L = [i])
    (h : ∀ K : Act → World → Prop, (∀ a' w', Till m S (L.setIfInBounds i true) w' → wpAnyL P md ops Q m S n (L.setIfInBounds i true) a' w' → K a' w') → if Region.wanted o (yielded ops a.tmps) = true then Oper.wp P o a w K Q else K (a.put o.dst undef) w) :
    wpAnyL P md ops Q m S (n + 1) L a w := by
  refine ⟨(fun h0 => by rw [h0] at hr; cases hr), fun j hj => ?_⟩
  rw [hr] at hj
  obtain rfl : j = i := by simpa using hj
  exact wpOp_step ho fun K hK => h K fun a' w' h1 h2 => hK a' w' ⟨h1, h2⟩

theorem wpPl_sound (hs : Region.noSelect ops = true) (hQ : ∀ c (t u : Array Value) d w, Q (.panic c) ⟨t, d⟩ w → Q (.panic c) ⟨u, d⟩ w) : ∀ (plan : List (Nat × Nat)) (n : Nat) (L : Array Bool) (a : Act) (w : World),
    plan.length ≤ n → planOK2 md ops m L plan = true → Till m S L w → wpPl P ops Q S plan a w → wpAnyL P md ops Q m S n L a w := by
  intro plan
  induction plan with
  | nil =>
    intro n L a w _ hp _ h
    exact L_done (by simpa [planOK2] using hp) h n
  | cons ik r ih =>
    intro n L a w hn hp hSt h
    obtain ⟨i, k⟩ := ik
    cases n with
    | zero => simp at hn
    | succ n =>
    have hn' : r.length ≤ n := by simp at hn; omega
    match k with
    | 0 =>
      simp only [planOK2, Bool.and_eq_true, bne_iff_ne, ne_eq] at hp
      obtain ⟨⟨⟨⟨h1, h2⟩, h3⟩, h4⟩, h5⟩ := hp
      obtain ⟨o, ho⟩ := Option.isSome_iff_exists.1 h1
      obtain ⟨v, hy, h⟩ := h o ho
      have h6 : Till m S (L.setIfInBounds i true) w := hSt.imp (fun h => by rw [getD_set_ne false h2]; exact h) id
      exact firstL h2 ho hs (fun _ _ _ h => panic_put2 hQ h) (fun _ => True) (fun _ => True) (fun _ _ _ _ _ _ => trivial) (fun _ _ _ _ => trivial) n L a w (Region.free_spec ho h3) trivial hSt (by simpa using h4) hy (ih n _ _ w hn' h5 h6 h)
    | 1 =>
      simp only [planOK2, Bool.and_eq_true, bne_iff_ne, ne_eq, Bool.not_eq_true'] at hp
      obtain ⟨⟨⟨⟨⟨⟨h1, h2⟩, hwt⟩, hm⟩, h3⟩, h4⟩, h5⟩ := hp
      obtain ⟨o, ho⟩ := Option.isSome_iff_exists.1 h1
      obtain ⟨v, hy, h⟩ := h o ho
      have h6 : Till m S (L.setIfInBounds i true) w := hSt.imp (fun h => by rw [getD_set_ne false h2]; exact h) id
      refine firstL h2 ho hs (fun _ _ _ h => panic_put2 hQ h) S (fun L => L.getD m false = false) ?_ (fun L w hJ h => h.resolve_left (by rw [hJ]; decide)) n L a w (Region.free_spec ho h3) hm hSt (by simpa using h4) hy (ih n _ _ w hn' h5 h6 h)
      intro L j hJ hiun hj _
      by_cases hjm : j = m
      · subst hjm
        exfalso
        obtain ⟨_, oj, hoj, hall⟩ := mem_ready.1 hj
        unfold waitsFor at hwt
        rw [hoj] at hwt
        simp only [Option.map_some, Option.getD_some] at hwt
        obtain ⟨e, he, hb⟩ := Array.any_eq_true'.1 hwt
        simp only [Bool.and_eq_true, beq_iff_eq] at hb
        have h1 := hall e he hb.1
        rw [hb.2] at h1
        rcases Nat.lt_or_ge i L.size with h' | h'
        · simp [h'] at hiun h1; rw [hiun] at h1; cases h1
        · simp [Array.getElem?_eq_none h'] at h1
      · rw [getD_set_ne false hjm]; exact hJ
    | 2 =>
      simp only [planOK2, Bool.and_eq_true, beq_iff_eq] at hp
      obtain ⟨⟨h1, h2⟩, h3⟩ := hp
      obtain ⟨o, ho⟩ := Option.isSome_iff_exists.1 h1
      exact L_alone ho h2 fun K hK => h o ho K fun a' w' hS hr => hK a' w' (.inr hS) (ih n _ _ w' hn' h3 (.inr hS) hr)
    | 3 =>
      simp only [planOK2, Bool.and_eq_true, beq_iff_eq, decide_eq_true_eq] at hp
      obtain ⟨⟨⟨⟨h1, rfl⟩, hsz⟩, h2⟩, h3⟩ := hp
      obtain ⟨o, ho⟩ := Option.isSome_iff_exists.1 h1
      have hT : ∀ w', Till i S (L.setIfInBounds i true) w' := fun w' => .inl (by simp [hsz])
      exact L_alone ho h2 fun K hK => h o ho K fun a' w' hr => hK a' w' (hT w') (ih n _ _ w' hn' h3 (hT w') hr)
    | k + 4 =>
      simp only [planOK2, Bool.and_eq_true, beq_iff_eq] at hp
      obtain ⟨⟨h1, h2⟩, h3⟩ := hp
      obtain ⟨o, ho⟩ := Option.isSome_iff_exists.1 h1
      exact L_alone ho h2 fun K hK => h o ho K fun a' w' hS hr => hK a' w' (.inr hS) (ih n _ _ w' hn' h3 (.inr hS) hr)

/-- The beginning: S holds behind the draw; m is the operation behind which it need not hold (the region's size: there is none). -/
theorem wp_region_pl {id : Nat} {l : List Oper} {a : Act} {w : World} (hm : P.follows .mixedOrders = true) (S : World → Prop) (m : Nat) (plan : List (Nat × Nat)) (hs : Region.noSelect l.toArray = true)
    (hp : (plan.length == l.length && planOK2 .any l.toArray m (Array.replicate l.toArray.size false) plan) = true)
    (hQ : ∀ c (t u : Array Value) d w, Q (.panic c) ⟨t, d⟩ w → Q (.panic c) ⟨u, d⟩ w) (hS : S w.drew) (h : wpPl P l.toArray Q S plan a w.drew) : (Code.region id l.toArray true).wp P Q a w := by
  simp only [Bool.and_eq_true, beq_iff_eq] at hp
  exact wp_region_any hm (any_of_L _ _ _ _ (wpPl_sound hs hQ plan _ _ a w.drew (by simp [hp.1]) hp.2 (.inr hS) h))
end
section
variable {P : Program} {Q : Exit → Act → World → Prop} {S : World → Prop} {i k : Nat} {l : List Oper} {o : Oper} {r : List (Nat × Nat)} {a : Act} {w : World}
theorem pl_pure (v : Value) (ho : l[i]? = some o) (hw : Region.wanted o (yielded l.toArray a.tmps) = true) (hy : ∀ W, (execOp a.eval o).run P W = .ok (.value v) W) (h : wpPl P l.toArray Q S r (a.put o.dst v) w) : wpPl P l.toArray Q S ((i, 0) :: r) a w := by
  intro o' ho'
  obtain rfl : o = o' := by simpa [ho] using ho'
  exact ⟨v, .inl ⟨hw, fun W _ => hy W⟩, h⟩
theorem pl_held (v : Value) (ho : l[i]? = some o) (hw : Region.wanted o (yielded l.toArray a.tmps) = true) (hy : ∀ W, S W → (execOp a.eval o).run P W = .ok (.value v) W) (h : wpPl P l.toArray Q S r (a.put o.dst v) w) : wpPl P l.toArray Q S ((i, 1) :: r) a w := by
  intro o' ho'
  obtain rfl : o = o' := by simpa [ho] using ho'
  exact ⟨v, .inl ⟨hw, hy⟩, h⟩
theorem pl_skip0 (ho : l[i]? = some o) (hw : Region.wanted o (yielded l.toArray a.tmps) = false) (h : wpPl P l.toArray Q S r (a.put o.dst undef) w) : wpPl P l.toArray Q S ((i, 0) :: r) a w := by
  intro o' ho'
  obtain rfl : o = o' := by simpa [ho] using ho'
  exact ⟨undef, .inr ⟨hw, rfl⟩, h⟩
theorem pl_skip1 (ho : l[i]? = some o) (hw : Region.wanted o (yielded l.toArray a.tmps) = false) (h : wpPl P l.toArray Q S r (a.put o.dst undef) w) : wpPl P l.toArray Q S ((i, 1) :: r) a w := by
  intro o' ho'
  obtain rfl : o = o' := by simpa [ho] using ho'
  exact ⟨undef, .inr ⟨hw, rfl⟩, h⟩
theorem pl_skip2 (ho : l[i]? = some o) (hw : Region.wanted o (yielded l.toArray a.tmps) = false) (hS : S w) (h : wpPl P l.toArray Q S r (a.put o.dst undef) w) : wpPl P l.toArray Q S ((i, 2) :: r) a w := by
  intro o' ho' K hK
  obtain rfl : o = o' := by simpa [ho] using ho'
  rw [if_neg (by rw [hw]; decide)]; exact hK _ _ hS h
theorem pl_alone (ho : l[i]? = some o) (hw : Region.wanted o (yielded l.toArray a.tmps) = true) (h : ∀ K : Act → World → Prop, (∀ a' w', S w' → wpPl P l.toArray Q S r a' w' → K a' w') → Oper.wp P o a w K Q) : wpPl P l.toArray Q S ((i, 2) :: r) a w := by
  intro o' ho' K hK
  obtain rfl : o = o' := by simpa [ho] using ho'
  rw [if_pos hw]; exact h K hK
theorem pl_last (ho : l[i]? = some o) (hw : Region.wanted o (yielded l.toArray a.tmps) = true) (h : ∀ K : Act → World → Prop, (∀ a' w', wpPl P l.toArray Q S r a' w' → K a' w') → Oper.wp P o a w K Q) : wpPl P l.toArray Q S ((i, 3) :: r) a w := by
  intro o' ho' K hK
  obtain rfl : o = o' := by simpa [ho] using ho'
  rw [if_pos hw]; exact h K hK
/-- An operation that is run, once: its value and the world behind it are known. -/
theorem pl_run {v : Value} {w' : World} (ho : l[i]? = some o) (hw : Region.wanted o (yielded l.toArray a.tmps) = true) (hrun : (execOp a.eval o).run P w = .ok (.value v) w') (hS : S w') (h : wpPl P l.toArray Q S r (a.put o.dst v) w') : wpPl P l.toArray Q S ((i, 2) :: r) a w :=
  pl_alone ho hw fun _ hK => wp_run hrun (hK _ _ hS h)
/-- The last store. -/
theorem pl_store {w' : World} (ho : l[i]? = some o) (hw : Region.wanted o (yielded l.toArray a.tmps) = true) (hrun : (execOp a.eval o).run P w = .ok .skip w') (h : wpPl P l.toArray Q S r (a.put o.dst undef) w') : wpPl P l.toArray Q S ((i, 3) :: r) a w :=
  pl_last ho hw fun _ hK => by unfold Oper.wp; rw [hrun]; exact hK _ _ h
/-- A store that leaves S. -/
theorem pl_put {w' : World} (ho : l[i]? = some o) (hw : Region.wanted o (yielded l.toArray a.tmps) = true) (hrun : (execOp a.eval o).run P w = .ok .skip w') (hS : S w') (h : wpPl P l.toArray Q S r (a.put o.dst undef) w') : wpPl P l.toArray Q S ((i, 2) :: r) a w :=
  pl_alone ho hw fun _ hK => by unfold Oper.wp; rw [hrun]; exact hK _ _ hS h
/-- A call of a function of the program by its contract. -/
theorem pl_calls (f : FuncId) (xs : Array Operand) (ts : Array TypeId) (ho : l[i]? = some o) (hw : Region.wanted o (yielded l.toArray a.tmps) = true) (hop : o.op = .call { callee := .value (.func f), args := xs, argTypes := ts })
    (fn : Func) (hf : P.funcs[f]? = some fn) (hname : (fn.name == "runtime.NumGoroutine") = false) (hb : fn.body.isSome = true)
    (args : Array Value) (ha : xs.map a.eval = args) {R : Ending → World → Prop} (hc : Calls P f args w R) (hR : ∀ e w', R e w' → ∃ v, e = .returned v ∧ S w' ∧ wpPl P l.toArray Q S r (a.put o.dst v) w') : wpPl P l.toArray Q S ((i, 2) :: r) a w :=
  pl_alone ho hw fun _ hK => wp_calls f xs ts hop fn hf hname hb args ha hc fun e w' he => by
    obtain ⟨v, h1, h2, h3⟩ := hR e w' he
    exact ⟨v, h1, hK _ _ h2 h3⟩
/-- append to a row of the call's own. -/
theorem pl_append (s x : Operand) (t : TypeId) (ho : l[i]? = some o) (hw : Region.wanted o (yielded l.toArray a.tmps) = true) (hop : o.op = .call { callee := .builtin .append, args := #[s, x], argTypes := #[t, t] })
    (base : Nat) (e : TypeId) (z : Value) (size bytes : Nat) (ht : P.underlying t = some (.slice e)) (hi : (P.info? e).map (fun i => (i.zero, i.size, i.bytes)) = some (some z, size, bytes)) (hzs : z.cells.size = size) (hsz : 0 < size)
    (v : Value) (n : Nat) (xs : List Value) (hs : a.eval s = v) (hown : w.ownsRow base e size v n xs)
    (ad : Addr) (m c : Nat) (news : List Value) (hx : a.eval x = .slice (some ad) m c) (hl : news.length = m * size) (hnews : ∀ j u, news[j]? = some u → w.cell? (ad.add j) = some u) (h1 : ∀ u ∈ news, u.oneCell' = true)
    (h63 : n + m ≤ 9223372036854775807) (hbytes : (n + m) * bytes ≤ 140737488355328) (hbase : base ≤ w.heap.size)
    (h : ∀ v' w', w'.ownsRow base e size v' (n + m) (xs ++ news) → w.grownBy w' v.ownBlock → (v'.ownBlock = v.ownBlock ∨ v'.ownBlock = some w.heap.size) → S w' ∧ wpPl P l.toArray Q S r (a.put o.dst v') w') : wpPl P l.toArray Q S ((i, 2) :: r) a w :=
  pl_alone ho hw fun _ hK => wp_append_at s x t hop base e z size bytes ht hi hzs hsz v n xs hs hown ad m c news hx hl hnews h1 h63 hbytes hbase fun v' w' g1 g2 g3 => hK _ _ (h v' w' g1 g2 g3).1 (h v' w' g1 g2 g3).2
theorem pl_done (h : Q .normal a w) : wpPl P l.toArray Q S [] a w := h
end
end Go.Proofs.YtlkmpjanchhahaaDoor
