/- What an argument reads as, laid down in memory: slices of whatever elements, bytes, bools, numbers, in one form for all walks. -/
import Derived.Test.YtlkmpjanchhahaaDoorBytes
import Derived.Deep.Slices
import Derived.OpenShut
import Derived.Deep.MidRow
namespace Go.Proofs.YtlkmpjanchhahaaDoor
open Go Go.Deep Go.ChangeShapes Go.WideShapes Go.RowKit
section
variable {H : Type} {enc : TypeId × Value → H} {P : Program} {w : World} {held : Bool}

theorem choose_list {α : Type} {p : Nat → α → Prop} : ∀ n, (∀ i, i < n → ∃ a, p i a) → ∃ l : List α, l.length = n ∧ ∀ i (h : i < l.length), p i l[i]
  | 0, _ => ⟨[], rfl, fun i h => absurd h (Nat.not_lt_zero i)⟩
  | n + 1, h => by
    obtain ⟨l, hl, hp⟩ := choose_list n (fun i hi => h i (by omega))
    obtain ⟨a, ha⟩ := h n (by omega)
    refine ⟨l ++ [a], by simp [hl], fun i hi => ?_⟩
    by_cases hil : i < l.length
    · rw [List.getElem_append_left hil]; exact hp i hil
    · have : i = n := by simp at hi; omega
      subst this
      rw [List.getElem_append_right (by omega)]
      simpa [hl] using ha

/-- A slice as an argument: its elements, each read by R out of its cells. -/
theorem open_sliceR {α : Type} {t e : TypeId} {fuel : Nat} {cs : List Value} {x : DataW H × List MemPlace} (ht : P.underlying t = some (.slice e)) (hpos : 0 < P.cellsOf e) (R : List Value → α → Prop)
    (hR : ∀ n cs x, DataW.trod enc P w 0 (fun _ => true) held n e cs = some x → ∃ a, R cs a) (h : DataW.trod enc P w 0 (fun _ => true) held fuel t cs = some x) :
    ∃ (a : Option Addr) (l : List α) (c : Nat), cs = [.slice a l.length c] ∧ (a = none → c = 0) ∧ l.length ≤ c ∧ c ≤ maxLen ∧
      (0 < l.length → ∃ b o, a = some ⟨b, o, none⟩ ∧ b < w.heap.size ∧ ∀ j (h : j < l.length), ∃ es, es.length = P.cellsOf e ∧ w.rangeAt b (o + j * P.cellsOf e) es ∧ R es l[j]) := by
  rcases open_slice ht h with ⟨rfl, _⟩ | ⟨a, len, cap, m, n, D, Pl, rfl, _, hl, hm, hmm, _, hx⟩
  · exact ⟨none, [], 0, rfl, fun _ => rfl, Nat.le_refl _, Nat.zero_le _, fun h => absurd h (Nat.lt_irrefl 0)⟩
  simp only [if_true] at hmm
  subst hmm
  have one : ∀ i, i < len → ∃ es, es.length = P.cellsOf e ∧ (∀ q, q < P.cellsOf e → w.cell? ((a.add (i * P.cellsOf e)).add q) = es[q]?) ∧ ∃ y, R es y := fun i hi => by
    obtain ⟨es, h1, h2⟩ := hx i (by omega)
    obtain ⟨_, h3, h4⟩ := World.cells?_some h1
    exact ⟨es, h3, h4, hR _ _ _ h2⟩
  obtain ⟨l, hll, hlp⟩ := choose_list (p := fun i (y : α) => ∃ es, es.length = P.cellsOf e ∧ (∀ q, q < P.cellsOf e → w.cell? ((a.add (i * P.cellsOf e)).add q) = es[q]?) ∧ R es y) len (fun i hi => by
    obtain ⟨es, h1, h2, y, h3⟩ := one i hi
    exact ⟨y, es, h1, h2, h3⟩)
  subst hll
  refine ⟨some a, l, m, rfl, (fun h => by cases h), hl, hm, fun h0 => ?_⟩
  obtain ⟨es, h1, h2, h3⟩ := hlp 0 h0
  have hc0 := h2 0 hpos
  rw [List.getElem?_eq_getElem (by omega)] at hc0
  simp only [Nat.zero_mul] at hc0
  have e0 : (a.add 0).add 0 = a := by simp [Addr.add]
  rw [e0] at hc0
  have hlt := World.block_lt_of_cell? w a hc0
  obtain ⟨b, o, s⟩ := a
  have hs : s = none := by
    cases s with
    | none => rfl
    | some z =>
      unfold World.cell? at hc0
      split at hc0 <;> simp at hc0
  subst hs
  refine ⟨b, o, rfl, hlt, fun j hj => ?_⟩
  obtain ⟨es, h1, h2, h3⟩ := hlp j hj
  refine ⟨es, h1, fun q u hq => ?_, h3⟩
  have hq' : q < P.cellsOf e := by
    have := (List.getElem?_eq_some_iff.1 hq).1
    omega
  have := h2 q hq'
  rw [hq] at this
  rw [← this]
  congr 1
  simp only [Addr.add]
  by_cases hz : j * P.cellsOf e = 0 <;> by_cases hz' : q = 0 <;> simp [hz, hz'] <;> omega

theorem u8_of {n : Int} (h : (Lit.int .u8 n).wf = true) : ∃ c : UInt8, n = c.toNat := by
  have hb : 0 ≤ n ∧ n < 256 := by
    have h1 : IntKind.u8.min = 0 := rfl
    have h2 : IntKind.u8.max = 255 := rfl
    simp [Lit.wf] at h
    omega
  refine ⟨UInt8.ofNat n.toNat, ?_⟩
  simp
  omega

/-- Bytes as an argument. -/
theorem open_bytes {t e : TypeId} {fuel : Nat} {cs : List Value} {x : DataW H × List MemPlace} (ht : P.underlying t = some (.slice e)) (he : P.underlying e = some (.int .u8)) (hc : P.cellsOf e = 1)
    (h : DataW.trod enc P w 0 (fun _ => true) held fuel t cs = some x) :
    ∃ (a : Option Addr) (l : List UInt8) (c : Nat), cs = [.slice a l.length c] ∧ (a = none → c = 0) ∧ l.length ≤ c ∧ c ≤ maxLen ∧ BytesR w (.slice a l.length c) l ∧ (0 < l.length → ∀ k, (Value.slice a l.length c).ownBlock = some k → k < w.heap.size) := by
  obtain ⟨a, l, c, rfl, h1, h2, h3, h4⟩ := open_sliceR (α := UInt8) ht (by omega) (fun cs y => cs = [u8 y]) (fun n cs x hx => by
    obtain ⟨k, rfl, _, hw⟩ := DataW.trod_int he hx
    obtain ⟨y, rfl⟩ := u8_of hw
    exact ⟨y, rfl⟩) h
  refine ⟨a, l, c, rfl, h1, h2, h3, ⟨a, c, rfl, fun h0 => ?_⟩, fun h0 k hk => ?_⟩
  · obtain ⟨b, o, rfl, _, h5⟩ := h4 h0
    refine ⟨_, rfl, fun j u hj => ?_⟩
    have hjl : j < l.length := by
      have := (List.getElem?_eq_some_iff.1 hj).1
      rwa [u8s_length] at this
    obtain ⟨es, _, h7, rfl⟩ := h5 j hjl
    have e1 : u = u8 l[j] := by
      unfold u8s at hj
      rw [List.getElem?_map, List.getElem?_eq_getElem hjl] at hj
      simpa using hj.symm
    subst e1
    rw [Addr.add_mid]
    have := h7 0 (u8 l[j]) rfl
    rw [hc, Nat.mul_one, Nat.add_zero] at this
    exact this
  · obtain ⟨b, o, rfl, h6, _⟩ := h4 h0
    have : b = k := by simpa [Value.ownBlock] using hk
    omega

/-- Bools as an argument. -/
theorem open_boolsR {t e : TypeId} {fuel : Nat} {cs : List Value} {x : DataW H × List MemPlace} (ht : P.underlying t = some (.slice e)) (he : P.underlying e = some .bool) (hc : P.cellsOf e = 1)
    (h : DataW.trod enc P w 0 (fun _ => true) held fuel t cs = some x) :
    ∃ (a : Option Addr) (l : List Bool) (c : Nat), cs = [.slice a l.length c] ∧ (a = none → c = 0) ∧ l.length ≤ c ∧ c ≤ maxLen ∧ BoolsR w (.slice a l.length c) l ∧ (0 < l.length → ∀ k, (Value.slice a l.length c).ownBlock = some k → k < w.heap.size) := by
  obtain ⟨a, l, c, rfl, h1, h2, h3, h4⟩ := open_sliceR (α := Bool) ht (by omega) (fun cs y => cs = [.bool y]) (fun n cs x hx => by
    obtain ⟨k, rfl, _⟩ := DataW.trod_bool he hx
    exact ⟨k, rfl⟩) h
  refine ⟨a, l, c, rfl, h1, h2, h3, ⟨a, c, rfl, fun h0 => ?_⟩, fun h0 k hk => ?_⟩
  · obtain ⟨b, o, rfl, _, h5⟩ := h4 h0
    refine ⟨b, o, rfl, fun j hj => ?_⟩
    obtain ⟨es, _, h7, rfl⟩ := h5 j hj
    have := h7 0 (.bool l[j]) rfl
    rw [hc, Nat.mul_one, Nat.add_zero] at this
    exact this
  · obtain ⟨b, o, rfl, h6, _⟩ := h4 h0
    have : b = k := by simpa [Value.ownBlock] using hk
    omega
end
end Go.Proofs.YtlkmpjanchhahaaDoor
