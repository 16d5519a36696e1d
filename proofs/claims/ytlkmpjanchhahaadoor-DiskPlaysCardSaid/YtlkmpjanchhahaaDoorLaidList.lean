/- What the listed sentinels give a walk, of a list of any length: each variable holds a pointer of its own to a block of its own. -/
import Derived.LaidLaws
import Derived.Stop.LaidErr
namespace Go.Proofs.YtlkmpjanchhahaaDoor
open Go Go.RowKit

/-- Each address by its place, and how they are told apart. -/
theorem laid_list {P : Program} {W : World} {nm : String} {ti tp te ts : TypeId} {ms : Array (String × TypeId)} {f : Field}
    (hi : P.underlying ti = some (.interface ms)) (hrow : ∀ u, P.typeName? 3 u = some nm → u = tp)
    (hp : P.underlying tp = some (.pointer te)) (he : P.underlying te = some (.struct #[f])) (hft : f.type = ts) (hfo : f.offset = 0) (hs : P.underlying ts = some .string) (hc : P.cellsOf te = 1) (hcs : P.cellsOf ts = 1) :
    ∀ (L : List (String × Nat × List UInt8)) (ps : List MemPlace), (∀ x ∈ L, P.globalNamed x.1 = some x.2.1 ∧ (P.globals[x.2.1]?).map (·.type) = some ti) →
      DataW.LaidVars P W (L.map fun x => (x.1, .iface nm (.ptr (.agg [.lit (.string x.2.2)])))) ps →
      (∀ b off, MemPlace.cell b off ∈ ps → (∃ c t, W.heap[b]? = some (.cells c t (0, 0))) ∧ ∀ u v, W.cell? ⟨b, off, none⟩ = some (.iface u v) → Value.okWide P W .any 0 u v) →
      ∃ as : List Addr, as.length = L.length ∧ (∀ (i : Nat) (x : String × Nat × List UInt8), L[i]? = some x → ∃ a, as[i]? = some a ∧ W.cell? ⟨x.2.1, 0, none⟩ = some (.iface tp (.pointer (some a)))) ∧
        (∀ a ∈ as, ∃ c t, W.heap[a.block]? = some (.cells c t (0, 0))) ∧ (∀ a ∈ as, MemPlace.cell a.block a.off ∈ ps) ∧ (ps.Nodup → as.Nodup)
  | [], ps, _, _, _ => ⟨[], rfl, (fun i x h => by simp at h), (fun a h => by cases h), (fun a h => by cases h), fun _ => List.nodup_nil⟩
  | x :: L, ps, hL, h, hrows => by
    obtain ⟨g0, t0, cs0, f0, p0, q0, hg0, ht0, hv0, hd0, hq, e0⟩ := h
    obtain ⟨hg, ht⟩ := hL x (by simp)
    obtain rfl := Option.some.inj (hg.symm.trans hg0)
    obtain rfl := Option.some.inj (ht.symm.trans ht0)
    subst e0
    obtain ⟨l0⟩ := cs0
    have ok0 : ∀ u v, l0 = [.iface u v] → Value.okWide P W .any 0 u v := fun u v e => by
      subst e
      exact (hrows x.2.1 0 (by simp [MemPlace.row])).2 u v (by simpa using World.var?_cell hg0 hv0 0)
    obtain ⟨a, s0, rfl, hc0, hs0, hz0, rfl⟩ := errorString_of_trod hi hrow hp he hft hfo hs hc hcs hd0 ok0
    obtain ⟨as, h1, h2, h3, h4, h5⟩ := laid_list hi hrow hp he hft hfo hs hc hcs L q0 (fun y hy => hL y (by simp [hy])) hq (fun b off hm => hrows b off (List.mem_append_right _ hm))
    refine ⟨a :: as, by simp [h1], ?_, ?_, ?_, ?_⟩
    · intro i y hy
      cases i with
      | zero =>
        simp at hy
        subst hy
        exact ⟨a, rfl, by simpa using World.var?_cell hg0 hv0 0⟩
      | succ i =>
        simp at hy
        obtain ⟨b, hb1, hb2⟩ := h2 i y hy
        exact ⟨b, by simpa using hb1, hb2⟩
    · intro b hb
      rcases List.mem_cons.1 hb with rfl | hb
      · exact (hrows b.block b.off (by simp [MemPlace.row])).1
      · exact h3 b hb
    · intro b hb
      rcases List.mem_cons.1 hb with rfl | hb
      · simp [MemPlace.row]
      · exact List.mem_append_right _ (h4 b hb)
    · intro hnd
      rw [List.nodup_cons]
      refine ⟨fun ha => ?_, h5 (List.Nodup.sublist (List.sublist_append_right _ _) hnd)⟩
      have hm := h4 a ha
      rw [List.nodup_append] at hnd
      exact hnd.2.2 (.cell a.block a.off) (by simp [MemPlace.row]) (.cell a.block a.off) hm rfl
end Go.Proofs.YtlkmpjanchhahaaDoor
