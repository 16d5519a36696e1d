/- The card of cartagelaw04.DiskKeeps: whatever the acts and whatever is kept, the law answers true, and the input reads as it did; the listed variables are tied to the program's text. -/
import Derived.Test.YtlkmpjanchhahaaDoorFrame
import Derived.Test.YtlkmpjanchhahaaDoorKeeps1
import Derived.Test.YtlkmpjanchhahaaDoorActs
import Derived.Test.YtlkmpjanchhahaaDoorTie
import Derived.Test.YtlkmpjanchhahaaDoorCards
import Derived.SevenTiedAt
import Derived.Below
namespace Go.Proofs.YtlkmpjanchhahaaDoor
open Go Go.ChangeShapes Go.WideShapes Go.ChangeAt Go.WideMaps Go.WideElems Go.RowKit
set_option linter.unusedVariables false

theorem door_met (os : Os) (args : Array Value) : laidMetH Tryd.prog laidE ((World.doorLaid Tryd.prog 427 os).forCall (fun _ _ => 0) ⟨#[], args, []⟩).memory :=
  laidMetH_of_parts3 (fuel := 8) (laidMet_of_run' 8 (by kernel_rfl) (by kernel_rfl)) (by kernel_rfl) (by kernel_rfl)

set_option maxRecDepth 100000 in
theorem keeps_lifted (os : Os) (started : os.Started) (H : Type) (enc : TypeId × Value → H) :
    ReturnsInHanded {} Tryd.checked os 4 .any (fun w args => (Rows.diskKeepsSpec.pre enc Tryd.prog Tryd.f4 [] false w args ∧ laidMetH Tryd.prog laidE w) ∧ sizedMet enc Tryd.prog Tryd.f4 (OpenSpec.ofChange Rows.diskKeepsSpec) false w args)
      (Rows.diskKeepsSpec.post enc Tryd.prog Tryd.f4 false true false false) := by
  refine returnsInHanded_of_change_and (C := Tryd.checked) (X := fun w _ => laidMetH Tryd.prog laidE w) (fun _ _ _ hh h => h.of_heap hh) own started (by kernel_rfl) Tryd.func4
    (ChangeSpec.witness_shaped (enc := enc) (C := Tryd.checked) (os := os) (X := fun w _ => laidMetH Tryd.prog laidE w) false (World.doorLaid Tryd.prog 427 os) #[.slice none 0 0, .slice none 0 0] 8 rfl (World.shaped_of_RefB (by kernel_rfl) (by kernel_rfl)) (by kernel_rfl) (by kernel_rfl) (by kernel_rfl) (door_met os _)) ?_
  intro W base args ds gs before hval0 hW _ _ hL _
  have hval : ∀ (j : Nat) t v, Tryd.f4.params[j]? = some t → args[j]? = some v → Value.okWide Tryd.prog W .any base t v := hval0
  have hW' := hW
  obtain ⟨p, q, hA0, hV, rfl, hfz, hnd⟩ := hW
  have hA : DataW.TrodAll enc Tryd.prog W 0 (fun _ => true) true Tryd.f4.params.toList args.toList ds p := hA0
  rw [Tryd.params4] at hA hval
  obtain ⟨v0, vs0, d0, ds0, p0, q0, hargs, rfl, rfl, h0, r0⟩ := trodAll_cons hA
  obtain ⟨v1, vs1, d1, ds1, p1, q1, rfl, rfl, rfl, h1, r1⟩ := trodAll_cons r0
  obtain ⟨rfl, rfl, rfl⟩ := trodAll_nil r1
  obtain rfl : args = #[v0, v1] := by cases args; simp_all
  obtain ⟨rfl, rfl⟩ := trodVars_none hV
  have g0 := h0
  have g1 := h1
  obtain ⟨a0, len0, cap0, rfl⟩ := okWide_slice Tryd.underlying36 (hval 0 36 v0 rfl rfl)
  obtain ⟨a1, len1, cap1, rfl⟩ := okWide_slice Tryd.underlying37 (hval 1 37 v1 rfl rfl)
  obtain ⟨fuel0, f0⟩ := h0
  obtain ⟨fuel1, f1⟩ := h1
  obtain ⟨u0, l, e0, hl⟩ := open_acts f0
  obtain ⟨ka, keep, kc, e1, _, _, _, hk, hkb⟩ := open_boolsR Tryd.underlying37 Tryd.underlying4 (by kernel_rfl) f1
  have e0' : Value.slice a0 len0 cap0 = u0 := by simpa [Value.cells] using e0
  have e1' : Value.slice a1 len1 cap1 = .slice ka keep.length kc := by simpa [Value.cells] using e1
  clear hA0 hval0
  simp only [List.append_nil] at hW'
  obtain ⟨ea, hE⟩ := errs_of_laid hL
  have hcall := keeps_law ea W.heap.size W hE u0 (.slice ka keep.length kc) l keep hl hk hkb
  rw [← e0', ← e1'] at hcall
  refine hcall.mono fun e W' ⟨he, hu⟩ => ?_
  subst he
  have bel : Below W.heap.size W W' := hu.below (fun _ _ h => h) (Nat.le_refl _)
  have hlt0 : ∀ x ∈ p0, x.block < W.heap.size := by
    obtain ⟨n, hn⟩ := g0
    exact DataW.trod_lt n _ _ _ hn
  have hlt1 : ∀ x ∈ p1, x.block < W.heap.size := by
    obtain ⟨n, hn⟩ := g1
    exact DataW.trod_lt n _ _ _ hn
  exact ⟨_, rfl, _, _, _, [], _, [], hW', trodAll_mk1 (shut_bool Tryd.underlying4 _),
    (trodAll_cons_mk (bel.trod (by kernel_rfl) (by kernel_rfl) (of_decide_eq_true (by kernel_rfl)) g0 hlt0) (trodAll_cons_mk (bel.trod (by kernel_rfl) (by kernel_rfl) (of_decide_eq_true (by kernel_rfl)) g1 hlt1) trodAll_mk0)), rfl, bel.frame _, fun h => by cases h⟩

theorem diskKeeps_holds : Rows.DiskKeepsSaid :=
  OpenClaim.holds_of_wide 4 Tryd.f4 rfl rfl rfl rfl rfl rfl rfl ⟨rfl, rfl, rfl, rfl, rfl⟩ rfl rfl rfl rfl rfl (by kernel_rfl) Tryd.func4 (by kernel_rfl)
    (of_decide_eq_true (by kernel_rfl)) (by unfold Func.isWrapper; first | (rw [if_pos (by decide +kernel)]; kernel_rfl) | (rw [if_neg (by decide +kernel)]; exact ⟨rfl, rfl⟩))
    (fun os started H enc _ => keeps_lifted os started H enc)

theorem diskKeeps_card : Rows.DiskKeepsCardSaid :=
  Claim7.holds_tied_plain_at .later [] [.sentinel, .sentinel, .sentinel, .sentinel, .sentinel, .sentinel, .sentinel, .sentinel, .sentinel, .sentinel, .sentinel, .sentinel, .sentinel, .sentinel, .sentinel, .sentinel, .sentinel, .sentinel, .sentinel, .sentinel, .sentinel, .sentinel] true (true, "48cf90c4cba88853af2aacf9ff2ec9e0668608cea82c7d94e0dd247ee753e4d7") true
    diskKeeps_holds (fun _ h => by cases h) (by kernel_rfl) (fun _ h => by cases h) diskKeeps_row_tie rfl ⟨rfl, rfl⟩ (by kernel_rfl) rfl
    (fun f fn hf hfn => by
      obtain rfl : f = 4 := Option.some.inj ((show Tryd.prog.funcNamed "cartage/cartagelaw04.DiskKeeps" = some 4 by kernel_rfl).symm.trans hf) |>.symm
      obtain rfl : fn = Tryd.f4 := (Option.some.inj (Tryd.func4.symm.trans hfn)).symm
      exact ⟨by kernel_rfl, fun j t ht => by
        rw [Tryd.params4] at ht
        have hm : t ∈ [36, 37] := by simpa using Array.mem_of_getElem? ht
        have hall : ([36, 37].all fun u => !Tryd.prog.wantsStandIn u) = true := by kernel_rfl
        exact (show Tryd.prog.wantsStandIn t = false by simpa using List.all_eq_true.1 hall t hm)⟩)
    (by kernel_rfl)
#print axioms diskKeeps_card
end Go.Proofs.YtlkmpjanchhahaaDoor
