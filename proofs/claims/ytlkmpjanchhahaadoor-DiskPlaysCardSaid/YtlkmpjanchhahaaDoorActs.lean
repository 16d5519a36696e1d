/- The list of acts of chapter 4's statements, as an argument. -/
import Derived.Test.YtlkmpjanchhahaaDoorKeeps0
import Derived.Test.YtlkmpjanchhahaaDoorArgs
namespace Go.Proofs.YtlkmpjanchhahaaDoor
open Go Go.Deep Go.ChangeShapes Go.WideShapes Go.RowKit
theorem list_four {α : Type} : ∀ {l : List α}, l.length = 4 → ∃ a b c d, l = [a, b, c, d]
  | [a, b, c, d], _ => ⟨a, b, c, d, rfl⟩
set_option maxRecDepth 100000 in
theorem open_acts {H : Type} {enc : TypeId × Value → H} {w : World} {held : Bool} {fuel : Nat} {cs : List Value} {x : DataW H × List MemPlace} (h : DataW.trod enc Tryd.prog w 0 (fun _ => true) held fuel 36 cs = some x) :
    ∃ v l, cs = [v] ∧ ActsR w.heap.size w v l ∧ ∀ a ∈ l, a.n ≤ 9223372036854775807 := by
  have h4 : Tryd.prog.cellsOf 39 = 4 := by kernel_rfl
  have h3 : Tryd.prog.cellsOf 3 = 1 := by kernel_rfl
  have h33 : Tryd.prog.cellsOf 33 = 1 := by kernel_rfl
  have h37 : Tryd.prog.cellsOf 37 = 1 := by kernel_rfl
  obtain ⟨a, l, c, rfl, _, _, _, hl⟩ := open_sliceR (α := ActM) Tryd.underlying36 (by omega)
    (fun cs y => ∃ bv kv, cs = [.int .i64 y.kind, .int .i64 y.n, bv, kv] ∧ BytesR w bv y.bytes ∧ BoolsR w kv y.keep ∧ (0 < y.bytes.length → ∀ k, bv.ownBlock = some k → k < w.heap.size) ∧ (∀ m c, bv = .slice none m c → c = 0) ∧ (0 < y.keep.length → ∀ k, kv.ownBlock = some k → k < w.heap.size) ∧ y.n ≤ 9223372036854775807)
    (fun n cs x hx => by
      obtain ⟨xs, m, _, _, hcl, hxl, hf⟩ := DataW.trod_struct Tryd.underlying39 hx
      rw [h4] at hcl
      have hxl' : xs.length = 4 := hxl
      obtain ⟨c0, c1, c2, c3, rfl⟩ := list_four hcl
      obtain ⟨x0, x1, x2, x3, rfl⟩ := list_four hxl'
      have f0 : DataW.trod enc Tryd.prog w 0 (fun _ => true) held m 3 (([c0, c1, c2, c3].drop 0).take (Tryd.prog.cellsOf 3)) = some x0 := hf 0 _ rfl
      have f1 : DataW.trod enc Tryd.prog w 0 (fun _ => true) held m 3 (([c0, c1, c2, c3].drop 1).take (Tryd.prog.cellsOf 3)) = some x1 := hf 1 _ rfl
      have f2 : DataW.trod enc Tryd.prog w 0 (fun _ => true) held m 33 (([c0, c1, c2, c3].drop 2).take (Tryd.prog.cellsOf 33)) = some x2 := hf 2 _ rfl
      have f3 : DataW.trod enc Tryd.prog w 0 (fun _ => true) held m 37 (([c0, c1, c2, c3].drop 3).take (Tryd.prog.cellsOf 37)) = some x3 := hf 3 _ rfl
      rw [h3] at f0 f1
      rw [h33] at f2
      rw [h37] at f3
      obtain ⟨k, e0, _, _⟩ := DataW.trod_int Tryd.underlying3 f0
      obtain ⟨n, e1, _, hn⟩ := DataW.trod_int Tryd.underlying3 f1
      obtain ⟨ba, bl, bc, e2, b1, _, _, b2, b3⟩ := open_bytes Tryd.underlying33 Tryd.underlying5 (by kernel_rfl) f2
      obtain ⟨ka, kl, kc, e3, _, _, _, k2, k3⟩ := open_boolsR Tryd.underlying37 Tryd.underlying4 (by kernel_rfl) f3
      simp only [List.drop_zero, List.drop_succ_cons, List.take_succ_cons, List.take_zero, List.cons.injEq, and_true] at e0 e1 e2 e3
      subst e0 e1 e2 e3
      refine ⟨⟨k, n, bl, kl⟩, _, _, rfl, b2, k2, b3, fun m c e => ?_, k3, by have h2 : IntKind.i64.max = 9223372036854775807 := rfl; simp [Lit.wf] at hn; show n ≤ 9223372036854775807; omega⟩
      injection e with e1 _ e3
      rw [← e3]
      exact b1 e1) h
  refine ⟨_, l, rfl, ⟨a, c, rfl, fun h0 => ?_⟩, ?_⟩
  rotate_left
  · intro y hy
    obtain ⟨j, hj, rfl⟩ := List.getElem_of_mem hy
    obtain ⟨b, o, _, _, hjj⟩ := hl (by omega)
    obtain ⟨es, _, _, bv, kv, _, _, _, _, _, _, r⟩ := hjj j hj
    exact r
  obtain ⟨b, o, rfl, _, hj⟩ := hl h0
  refine ⟨b, o, rfl, fun j hjl => ?_⟩
  obtain ⟨es, _, hr, bv, kv, rfl, r1, r2, r3, r4, r5, _⟩ := hj j hjl
  rw [h4] at hr
  exact ⟨bv, kv, hr, r1, r2, r3, r4, r5⟩
end Go.Proofs.YtlkmpjanchhahaaDoor
