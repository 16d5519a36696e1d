/- What a card of this seat gives a walk: the sentinels of package api, each by its address. -/
import Derived.Test.YtlkmpjanchhahaaDoorRows
import Derived.Test.YtlkmpjanchhahaaDoorNum
import Derived.Test.YtlkmpjanchhahaaDoorLaidList
import Derived.ProofKit
import Derived.LaidMore
import Derived.OpenShut
import Derived.Stop.Joined
namespace Go.Proofs.YtlkmpjanchhahaaDoor
open Go.ChangeShapes Go.WideShapes Go.ChangeAt Go.WideMaps Go.WideElems Go.RowKit

/-- The listed variables: name, number, text. -/
def errL : List (String × Nat × List UInt8) := [("cartage/api.ErrRange", 0, [97, 32, 110, 117, 109, 98, 101, 114, 32, 105, 115, 32, 111, 117, 116, 32, 111, 102, 32, 105, 116, 115, 32, 114, 97, 110, 103, 101]),
  ("cartage/api.ErrShort", 3, [115, 111, 109, 101, 116, 104, 105, 110, 103, 32, 105, 115, 32, 109, 105, 115, 115, 105, 110, 103, 32, 97, 116, 32, 116, 104, 101, 32, 101, 110, 100]),
  ("cartage/api.ErrLong", 2, [116, 104, 101, 114, 101, 32, 105, 115, 32, 109, 111, 114, 101, 32, 116, 104, 97, 110, 32, 109, 97, 121, 32, 98, 101]),
  ("cartage/api.ErrForm", 4, [105, 116, 32, 105, 115, 32, 110, 111, 116, 32, 111, 102, 32, 105, 116, 115, 32, 102, 111, 114, 109]),
  ("cartage/api.ErrSum", 5, [116, 104, 101, 32, 115, 117, 109, 32, 105, 115, 32, 110, 111, 116, 32, 114, 105, 103, 104, 116]),
  ("cartage/api.ErrName", 6, [105, 116, 32, 105, 115, 32, 110, 111, 32, 114, 105, 103, 104, 116, 32, 110, 97, 109, 101]),
  ("cartage/api.ErrKind", 7, [105, 116, 32, 105, 115, 32, 111, 102, 32, 97, 110, 111, 116, 104, 101, 114, 32, 107, 105, 110, 100]),
  ("cartage/api.ErrDepth", 8, [105, 116, 32, 103, 111, 101, 115, 32, 116, 111, 111, 32, 100, 101, 101, 112]),
  ("cartage/api.ErrMissing", 9, [97, 110, 32, 111, 98, 106, 101, 99, 116, 32, 105, 115, 32, 109, 105, 115, 115, 105, 110, 103]),
  ("cartage/api.ErrCas", 10, [97, 32, 114, 101, 102, 32, 105, 115, 32, 110, 111, 116, 32, 119, 104, 97, 116, 32, 119, 97, 115, 32, 101, 120, 112, 101, 99, 116, 101, 100]),
  ("cartage/api.ErrQuota", 11, [116, 104, 101, 32, 100, 105, 115, 107, 32, 104, 97, 115, 32, 110, 111, 32, 114, 111, 111, 109]),
  ("cartage/api.ErrQueue", 12, [116, 104, 101, 32, 113, 117, 101, 117, 101, 32, 104, 97, 115, 32, 110, 111, 32, 114, 111, 111, 109]),
  ("cartage/api.ErrLarge", 13, [105, 116, 32, 105, 115, 32, 116, 111, 111, 32, 108, 97, 114, 103, 101]),
  ("cartage/api.ErrNoRepo", 14, [116, 104, 101, 114, 101, 32, 105, 115, 32, 110, 111, 32, 115, 117, 99, 104, 32, 114, 101, 112, 111, 115, 105, 116, 111, 114, 121]),
  ("cartage/api.ErrExists", 15, [116, 104, 101, 114, 101, 32, 105, 115, 32, 115, 117, 99, 104, 32, 97, 32, 114, 101, 112, 111, 115, 105, 116, 111, 114, 121, 32, 97, 108, 114, 101, 97, 100, 121]),
  ("cartage/api.ErrDown", 1, [105, 116, 32, 105, 115, 32, 110, 111, 116, 32, 97, 118, 97, 105, 108, 97, 98, 108, 101, 32, 110, 111, 119]),
  ("cartage/api.ErrTimeout", 16, [110, 111, 98, 111, 100, 121, 32, 97, 110, 115, 119, 101, 114, 101, 100, 32, 105, 110, 32, 116, 105, 109, 101]),
  ("cartage/api.ErrStale", 17, [116, 104, 101, 32, 101, 112, 111, 99, 104, 32, 105, 115, 32, 110, 111, 116, 32, 116, 104, 101, 32, 99, 117, 114, 114, 101, 110, 116, 32, 111, 110, 101]),
  ("cartage/api.ErrState", 18, [105, 116, 32, 99, 97, 110, 32, 110, 111, 116, 32, 98, 101, 32, 100, 111, 110, 101, 32, 105, 110, 32, 116, 104, 105, 115, 32, 115, 116, 97, 116, 101]),
  ("cartage/api.ErrDup", 19, [105, 116, 32, 105, 115, 32, 116, 104, 101, 114, 101, 32, 97, 108, 114, 101, 97, 100, 121]),
  ("cartage/api.ErrNone", 20, [116, 104, 101, 114, 101, 32, 105, 115, 32, 110, 111, 110, 101]),
  ("cartage/api.ErrFull", 21, [116, 104, 101, 114, 101, 32, 97, 114, 101, 32, 97, 115, 32, 109, 97, 110, 121, 32, 97, 115, 32, 109, 97, 121, 32, 98, 101])]
theorem star_err : "*" ++ "errors.errorString" = "*errors.errorString" := by decide
theorem row_err (u : TypeId) (h : Tryd.prog.typeName? 3 u = some "*errors.errorString") : u = 116 :=
  typeName_ptr_named (nm := "errors.errorString") (by rw [star_err]; kernel_rfl) (by kernel_rfl) (by decide) u (by rw [star_err]; exact h)
theorem own : ownKnob Tryd.prog.godebug = none := by kernel_rfl
theorem errL_ok : ∀ x ∈ errL, Tryd.prog.globalNamed x.1 = some x.2.1 ∧ (Tryd.prog.globals[x.2.1]?).map (·.type) = some 25 := by
  have h : (errL.all fun x => (Tryd.prog.globalNamed x.1 == some x.2.1) && ((Tryd.prog.globals[x.2.1]?).map (·.type) == some 25)) = true := by kernel_rfl
  intro x hx
  have := List.all_eq_true.1 h x hx
  simpa using this
abbrev laidE : List (String × DataW Unit) := errL.map fun x => (x.1, .iface "*errors.errorString" (.ptr (.agg [.lit (.string x.2.2)])))
theorem laid_eq : Rows.diskDeedsRow.laid = laidE := rfl

theorem errs_of_laid {W : World} (h : laidMetH Tryd.prog laidE W) : ∃ ea, Errs ea W.heap.size W := by
  rw [MakeChecks.laidMetH_plain _ _ _ (by kernel_rfl)] at h
  obtain ⟨ps, hv, hnd, hrows⟩ := h
  obtain ⟨ads, h1, h2, h3, h4, h5⟩ := laid_list (P := Tryd.prog) (W := W) Tryd.underlying25 row_err Tryd.underlying116 Tryd.underlying141 rfl rfl Tryd.underlying9 (by kernel_rfl) (by kernel_rfl) errL ps errL_ok hv hrows
  have hnod := h5 hnd
  have hlen : ads.length = 22 := h1
  have hix : ∀ g, g < 22 → ords.idxOf g < 22 ∧ (errL[ords.idxOf g]?).map (·.2.1) = some g := by decide
  have hinj : ∀ g, g < 22 → ∀ h, h < 22 → ords.idxOf g = ords.idxOf h → g = h := by decide
  have hvar : ∀ g, g < 22 → ∃ a, ads[ords.idxOf g]? = some a ∧ W.cell? ⟨g, 0, none⟩ = some (.iface 116 (.pointer (some a))) := by
    intro g hg
    obtain ⟨_, he⟩ := hix g hg
    obtain ⟨x, hx, hxg⟩ := Option.map_eq_some_iff.1 he
    obtain ⟨a, ha1, ha2⟩ := h2 _ x hx
    rw [hxg] at ha2
    exact ⟨a, ha1, ha2⟩
  have hget : ∀ g, g < 22 → ads[ords.idxOf g]? = some (ads.getD (ords.idxOf g) ⟨0, 0, none⟩) := by
    intro g hg
    have := (hix g hg).1
    rw [List.getD_eq_getElem?_getD, List.getElem?_eq_getElem (by omega)]
    rfl
  have hmem : ∀ g, g < 22 → ads.getD (ords.idxOf g) ⟨0, 0, none⟩ ∈ ads := fun g hg => List.mem_of_getElem? (hget g hg)
  refine ⟨fun g => ads.getD (ords.idxOf g) ⟨0, 0, none⟩, ⟨?_, ?_, Nat.le_refl _, ?_, ?_, ?_⟩⟩
  · intro g hg
    obtain ⟨a, ha, hc⟩ := hvar g hg
    rw [hget g hg] at ha
    injection ha with ha
    rw [ha]
    exact hc
  · obtain ⟨a, _, hc⟩ := hvar 21 (by omega)
    exact World.block_lt_of_cell? W _ hc
  · intro g hg
    obtain ⟨c, t, hb⟩ := h3 _ (hmem g hg)
    exact (Array.getElem?_eq_some_iff.1 hb).1
  · intro g hg
    exact h3 _ (hmem g hg)
  · intro g k hg hk hne e
    apply hne
    apply hinj g hg k hk
    have hig := (hix g hg).1
    have hik := (hix k hk).1
    have e1 := hget g hg
    have e2 := hget k hk
    have e' : ads.getD (ords.idxOf g) ⟨0, 0, none⟩ = ads.getD (ords.idxOf k) ⟨0, 0, none⟩ := e
    rw [← e', ← e1] at e2
    exact (List.getElem?_inj (by omega) hnod).1 e2.symm
end Go.Proofs.YtlkmpjanchhahaaDoor
