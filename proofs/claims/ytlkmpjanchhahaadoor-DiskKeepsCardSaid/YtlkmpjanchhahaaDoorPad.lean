/- append(append([]byte{}, l...), make([]byte, 32-len(l))...): the bytes l, and zeros up to 32. -/
import Derived.Test.YtlkmpjanchhahaaDoorKeeps0
import Derived.Test.YtlkmpjanchhahaaDoorZeros
namespace Go.Proofs.YtlkmpjanchhahaaDoor
open Go Go.RowKit
theorem build0 (W : World) : (Instr.buildSlice 33 0 #[]).run Tryd.prog W = .ok (.slice (some ⟨W.heap.size, 0, none⟩) 0 0) (W.alloc (.cells #[] 5)) := by go_simp
theorem pad_append (W0 : World) (l : List UInt8) (ba : Option Addr) (bc : Nat) (hb : BytesR W0 (.slice ba l.length bc) l) (hn : ba = none → bc = 0) (hl : l.length ≤ 32) :
    ∃ v5 w5 v6 w6, (Builtin.append_ #[33, 33] 33 #[.slice (some ⟨W0.heap.size, 0, none⟩) 0 0, .slice ba l.length bc]).run Tryd.prog (W0.alloc (.cells #[] 5)) = .ok v5 w5 ∧
      (Builtin.append_ #[33, 3] 33 #[v5, .int .i64 (32 - l.length)]).run Tryd.prog w5 = .ok v6 w6 ∧ Upd (fun _ => False) W0 w5 ∧ Upd (fun _ => False) W0 w6 ∧ (convert 33 9 v6).run Tryd.prog w6 = .ok (.string (bs (pad32 l))) w6 := by
  have hu1 : Upd (fun _ => False) W0 (W0.alloc (.cells #[] 5)) := (Upd.refl _ _).alloc _
  obtain ⟨i, hi, hz, hsize, hby⟩ := info_parts (show (Tryd.prog.info? 5).map (fun i => (i.zero, i.size, i.bytes)) = some (some (.int .u8 0), 1, 1) by kernel_rfl)
  have own0 : (W0.alloc (.cells #[] 5)).ownsRow W0.heap.size 5 1 (.slice (some ⟨W0.heap.size, 0, none⟩) 0 0) 0 [] :=
    ⟨rfl, .inr ⟨W0.heap.size, 0, #[], rfl, Nat.le_refl _, Blk.new W0 5 #[], Nat.le_refl _, Nat.zero_le _, rfl, rfl⟩⟩
  obtain ⟨a', c', e', hcell⟩ := hb.upd hu1 (fun _ _ h => h)
  injection e' with e1 _ e3
  subst e1
  subst e3
  obtain ⟨v5, w5, hr5, ho5, hg5, ha5⟩ := run_append_src (P := Tryd.prog) (W0.alloc (.cells #[] 5)) W0.heap.size 33 33 5 i (.int .u8 0) 1 1 Tryd.underlying33 hi hz hsize hby rfl (by decide) _ 0 [] own0 ba l.length bc (u8s l) (by rw [u8s_length, Nat.mul_one])
    hcell hn (u8s_one l) (by unfold maxLen; omega) (by omega) (by simp)
  have hu5 : Upd (fun _ => False) W0 w5 := hu1.grown hg5 (fun k e hk => by
    have e' : W0.heap.size = k := by injection e
    omega)
  have hm : ((32 : Int) - l.length) = ((32 - l.length : Nat) : Int) := by omega
  have hzc : (Builtin.zeroCells (Value.int .u8 0).cells (32 - l.length)).toList = u8s (List.replicate (32 - l.length) 0) := by
    unfold Builtin.zeroCells
    apply List.ext_getElem
    · simp [u8s_length, Value.cells]
    · intro j h1 h2
      simp [u8s, u8, Value.cells, Nat.mod_one]
  have own5 : w5.ownsRow W0.heap.size 5 1 v5 l.length (u8s l) := by simpa using ho5
  obtain ⟨v6, w6, hr6, ho6, hg6, ha6⟩ := run_append_zeros (P := Tryd.prog) w5 W0.heap.size 33 3 33 5 i (.int .u8 0) 1 1 Tryd.underlying33 Tryd.underlying3 hi hz hsize hby rfl (by decide) (by decide) v5 l.length (u8s l) own5 .i64 (32 - l.length)
    (by rw [hzc]; exact u8s_one _) (by omega) hu5.size
  have hu6 : Upd (fun _ => False) W0 w6 := hu5.grown hg6 (fun k e hk => by
    rcases ha5 with h | h
    · rw [h] at e
      have e' : W0.heap.size = k := by injection e
      omega
    · rw [h] at e
      have e' : (W0.alloc (.cells #[] 5)).heap.size = k := by injection e
      simp at e'
      omega)
  refine ⟨v5, w5, v6, w6, hr5, by rw [hm]; exact hr6, hu5, hu6, run_str Tryd.prog w6 33 5 9 Tryd.underlying33 Tryd.underlying5 Tryd.underlying9 v6 (pad32 l) ?_⟩
  obtain ⟨A6, c6, rfl⟩ := own_shape ho6
  have hp : (pad32 l).length = l.length + (32 - l.length) := by rw [pad32_length l hl]; omega
  have hcs : u8s l ++ (Builtin.zeroCells (Value.int .u8 0).cells (32 - l.length)).toList = u8s (pad32 l) := by
    rw [hzc]
    unfold pad32 u8s
    rw [List.map_append, show zero32.drop l.length = List.replicate (32 - l.length) 0 by unfold zero32; rw [List.drop_replicate]]
  rw [hcs] at ho6
  refine ⟨A6, c6, by rw [hp], fun h0 => ?_⟩
  rcases ho6.2 with ⟨e, h0'⟩ | ⟨g, cap, cur, e, _⟩
  · omega
  · injection e with e1
    exact ⟨⟨g, 0, none⟩, e1, fun j u hj => ho6.cells (g := g) (by rw [e1]; rfl) j u hj⟩
end Go.Proofs.YtlkmpjanchhahaaDoor
