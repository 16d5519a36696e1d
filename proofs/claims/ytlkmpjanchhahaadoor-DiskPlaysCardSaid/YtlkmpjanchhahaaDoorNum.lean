/- cartagenum.Num: the document's number of an error. -/
import Derived.Test.YtlkmpjanchhahaaDoorErrors
import Derived.Test.YtlkmpjanchhahaaDoorOps
import Derived.Deep.LoopGhost
namespace Go.Proofs.YtlkmpjanchhahaaDoor
open Go.RowKit
set_option linter.unusedSimpArgs false
set_option linter.unusedVariables false

/-- The order of Num's list, by the numbers of the dump's variables. -/
def ords : List Nat := [0, 3, 2, 4, 5, 6, 7, 8, 9, 10, 11, 12, 13, 14, 15, 1, 16, 17, 18, 19, 20, 21]
def numOf : Option Nat → Int
  | none => 0
  | some g => (ords.idxOf g : Nat) + 1

theorem num_nil (w : World) : Calls Tryd.prog 21 #[.nilIface] w fun r w' => r = .returned (.int .i64 0) ∧ w = w' := by
  go_enter Tryd.func21, Tryd.ntmps21
  go_wp2
  go_ret
  exact ⟨rfl, rfl⟩

set_option maxRecDepth 20000 in
theorem num_at (ea : Nat → Addr) (B : Nat) (w : World) (hE : Errs ea B w) (g : Nat) (hg : g < 22) :
    Calls Tryd.prog 21 #[.iface 116 (.pointer (some (ea g)))] w fun r w' => r = .returned (.int .i64 (numOf (some g))) ∧ Upd (fun _ => False) w w' := by
  have HE := Lib.hid hE
  have v0 := hE.var 0 (by omega)
  have v1 := hE.var 1 (by omega)
  have v2 := hE.var 2 (by omega)
  have v3 := hE.var 3 (by omega)
  have v4 := hE.var 4 (by omega)
  have v5 := hE.var 5 (by omega)
  have v6 := hE.var 6 (by omega)
  have v7 := hE.var 7 (by omega)
  have v8 := hE.var 8 (by omega)
  have v9 := hE.var 9 (by omega)
  have v10 := hE.var 10 (by omega)
  have v11 := hE.var 11 (by omega)
  have v12 := hE.var 12 (by omega)
  have v13 := hE.var 13 (by omega)
  have v14 := hE.var 14 (by omega)
  have v15 := hE.var 15 (by omega)
  have v16 := hE.var 16 (by omega)
  have v17 := hE.var 17 (by omega)
  have v18 := hE.var 18 (by omega)
  have v19 := hE.var 19 (by omega)
  have v20 := hE.var 20 (by omega)
  have v21 := hE.var 21 (by omega)
  clear hE
  go_enter Tryd.func21, Tryd.ntmps21
  go_wp2
  generalize hW : w.alloc _ = W
  have hW' : w.alloc (.cells (ords.map (fun g => Value.iface 116 (.pointer (some (ea g))))).toArray 25) = W := hW
  clear hW
  have hu : Upd (fun _ => False) w W := by rw [← hW']; exact (Upd.refl _ w).alloc _
  have hEW : Errs ea B W := HE.out.upd hu (fun _ h => h.elim)
  have hcell : ∀ j, (hj : j < 22) → W.cell? ⟨w.heap.size, j, none⟩ = some (.iface 116 (.pointer (some (ea (ords.getD j 0))))) := by
    intro j hj
    have hb : Blk W w.heap.size 25 (ords.map (fun g => Value.iface 116 (.pointer (some (ea g))))).toArray := by rw [← hW']; exact Blk.new _ _ _
    rw [hb.cell j]
    have hl : j < ords.length := hj
    simp [List.getElem?_eq_getElem hl]
  have hord : ∀ j, j < 22 → ords.getD j 0 < 22 := by decide
  have hidx : ∀ g, g < 22 → ords.idxOf g < 22 ∧ ords.getD (ords.idxOf g) 0 = g := by decide
  have hne : ∀ j, j < 22 → ords.idxOf (ords.getD j 0) = j := by decide
  obtain ⟨hi1, hi2⟩ := hidx g hg
  obtain ⟨q, hq⟩ : ∃ q, q = ords.idxOf g := ⟨_, rfl⟩
  have hnum : numOf (some g) = (q : Int) + 1 := by rw [hq]; rfl
  have HNUM := Lib.hid hnum
  rw [← hq] at hi1 hi2
  have HU := Lib.hid hu
  have HC := Lib.hid hcell
  have HEW := Lib.hid hEW
  have HO := Lib.hid hord
  have HN := Lib.hid hne
  have HI2 := Lib.hid hi2
  have HQ := Lib.hid hq
  clear hW' hu hcell hEW hord hidx hne hnum hi2 hq v0 v1 v2 v3 v4 v5 v6 v7 v8 v9 v10 v11 v12 v13 v14 v15 v16 v17 v18 v19 v20 v21
  go_loopg [33] 22 (fun k p wr => ∃ j : Nat, p = .int .i64 j ∧ j + k = 22 ∧ j ≤ q ∧ wr = W)
  case atStart => exact ⟨0, rfl, by omega, by omega, rfl⟩
  case round =>
    obtain ⟨j, rfl, hj, hjq, rfl⟩ := hrel
    have hj22 : j < 22 := by omega
    have hcj := HC.out j hj22
    by_cases hjq' : j = q
    · subst hjq'
      have hx : ords.getD j 0 = g := HI2.out
      rw [hx] at hcj
      have his := is_same (ea g) wr
      clear hx hjq hi1
      go_wp2_with (go_at_call 52; refine his.mono ?_; rintro r w' ⟨rfl, rfl⟩)
      go_ret
      exact ⟨by rw [HNUM.out]; rfl, HU.out⟩
    · have hx : ords.getD j 0 ≠ g := by
        intro h
        have := HN.out j hj22
        rw [h] at this
        rw [← HQ.out] at this
        exact hjq' this.symm
      have hx22 := HO.out j hj22
      obtain ⟨x, hxe⟩ : ∃ x, x = ords.getD j 0 := ⟨_, rfl⟩
      rw [← hxe] at hx hx22 hcj
      obtain ⟨cg, tg, hbg⟩ := HEW.out.blk g hg
      obtain ⟨cx, tx, hbx⟩ := HEW.out.blk x hx22
      have hio := is_other (ea g) (ea x) cg cx tg tx wr (HEW.out.inj g x hg hx22 (fun h => hx h.symm)) hbg hbx
      have hjq2 : j + 1 ≤ q := by omega
      clear hx hxe hbg hbx hjq' hjq hi1
      go_wp2_with (go_at_call 52; refine hio.mono ?_; rintro r w' ⟨rfl, rfl⟩)
      go_roundg (22 - (j + 1))
      case measure => omega
      case rel => exact ⟨j + 1, by go_num, by omega, hjq2, rfl⟩

theorem num_c (ea : Nat → Addr) (B : Nat) (w : World) (hE : Errs ea B w) (e : Option Nat) (he : ∀ g, e = some g → g < 22) :
    Calls Tryd.prog 21 #[ev ea e] w fun r w' => r = .returned (.int .i64 (numOf e)) ∧ Upd (fun _ => False) w w' := by
  cases e with
  | none => exact (num_nil w).mono (by rintro r w' ⟨rfl, rfl⟩; exact ⟨rfl, Upd.refl _ _⟩)
  | some g => exact num_at ea B w hE g (he g rfl)
end Go.Proofs.YtlkmpjanchhahaaDoor
