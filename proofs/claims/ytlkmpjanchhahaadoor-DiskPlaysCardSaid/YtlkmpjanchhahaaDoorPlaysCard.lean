/- The card of cartagelaw04.DiskPlays: whatever the sectors and the acts, the law answers true, and the input reads as it did; the listed variables are tied to the program's text. -/
import Derived.Test.YtlkmpjanchhahaaDoorFrame
import Derived.Test.YtlkmpjanchhahaaDoorPlay1
import Derived.Test.YtlkmpjanchhahaaDoorActs
import Derived.Test.YtlkmpjanchhahaaDoorTie
import Derived.Test.YtlkmpjanchhahaaDoorCards
import Derived.SevenTiedAt
import Derived.Below
namespace Go.Proofs.YtlkmpjanchhahaaDoor
open Go Go.ChangeShapes Go.WideShapes Go.ChangeAt Go.WideMaps Go.WideElems Go.RowKit
set_option linter.unusedVariables false

theorem door_met (os : Os) (args : Array Value) : laidMetH Tryd.prog laidE ((World.doorLaid Tryd.prog 427 os).forCall (fun _ _ => 0) ⟨#[], args, []⟩).memory :=
  laidMetH_of_parts3 (fuel := 8) (laidMet_of_run' 8 (by kernel_rfl) (by kernel_rfl)) (by kernel_rfl) (by kernel_rfl)

set_option maxRecDepth 100000 in
theorem plays_lifted (os : Os) (started : os.Started) (H : Type) (enc : TypeId × Value → H) :
    ReturnsInHanded {} Tryd.checked os 5 .any (fun w args => (Rows.diskPlaysSpec.pre enc Tryd.prog Tryd.f5 [] false w args ∧ laidMetH Tryd.prog laidE w) ∧ sizedMet enc Tryd.prog Tryd.f5 (OpenSpec.ofChange Rows.diskPlaysSpec) false w args)
      (Rows.diskPlaysSpec.post enc Tryd.prog Tryd.f5 false true false false) := by
  refine returnsInHanded_of_change_and (C := Tryd.checked) (X := fun w _ => laidMetH Tryd.prog laidE w) (fun _ _ _ hh h => h.of_heap hh) own started (by kernel_rfl) Tryd.func5
    (ChangeSpec.witness_shaped (enc := enc) (C := Tryd.checked) (os := os) (X := fun w _ => laidMetH Tryd.prog laidE w) false (World.doorLaid Tryd.prog 427 os) #[.int .i64 0, .slice none 0 0] 8 rfl (World.shaped_of_RefB (by kernel_rfl) (by kernel_rfl)) (by kernel_rfl) (by kernel_rfl) (by kernel_rfl) (door_met os _)) ?_
  intro W base args ds gs before hval0 hW _ _ hL _
  have hval : ∀ (j : Nat) t v, Tryd.f5.params[j]? = some t → args[j]? = some v → Value.okWide Tryd.prog W .any base t v := hval0
  have hW' := hW
  obtain ⟨p, q, hA0, hV, rfl, hfz, hnd⟩ := hW
  have hA : DataW.TrodAll enc Tryd.prog W 0 (fun _ => true) true Tryd.f5.params.toList args.toList ds p := hA0
  rw [Tryd.params5] at hA hval
  obtain ⟨v0, vs0, d0, ds0, p0, q0, hargs, rfl, rfl, h0, r0⟩ := trodAll_cons hA
  obtain ⟨v1, vs1, d1, ds1, p1, q1, rfl, rfl, rfl, h1, r1⟩ := trodAll_cons r0
  obtain ⟨rfl, rfl, rfl⟩ := trodAll_nil r1
  obtain rfl : args = #[v0, v1] := by cases args; simp_all
  obtain ⟨rfl, rfl⟩ := trodVars_none hV
  have g1 := h1
  obtain ⟨a0, rfl, rfl, rfl, w0⟩ := open_int Tryd.underlying3 (hval 0 3 v0 rfl rfl) h0
  obtain ⟨a1, len1, cap1, rfl⟩ := okWide_slice Tryd.underlying36 (hval 1 36 v1 rfl rfl)
  obtain ⟨fuel1, f1⟩ := h1
  obtain ⟨u0, l, e0, hl, hwf⟩ := open_acts f1
  have e0' : Value.slice a1 len1 cap1 = u0 := by simpa [Value.cells] using e0
  subst e0'
  clear hA0 hval0
  simp only [List.append_nil, List.nil_append] at hW'
  obtain ⟨ea, hE⟩ := errs_of_laid hL
  have hcall : Calls Tryd.prog 5 #[.int .i64 a0, .slice a1 len1 cap1] W fun r w' => r = .returned (.bool true) ∧ Upd (fun _ => False) W w' := by
    have hlen : len1 = l.length := by
      obtain ⟨A, c, e, _⟩ := hl
      injection e
    by_cases h : 60 < len1 ∨ (a0 < 2 ∨ 4096 < a0)
    · exact plays_short ea W.heap.size W hE a0 a1 len1 cap1 h
    · obtain ⟨m, hm⟩ : ∃ m : Nat, a0 = m := ⟨a0.toNat, by omega⟩
      subst hm
      exact plays_long ea W.heap.size W hE m (by omega) (by omega) (.slice a1 len1 cap1) l hl hwf (by omega)
  refine hcall.mono fun e W' ⟨he, hu⟩ => ?_
  subst he
  have bel : Below W.heap.size W W' := hu.below (fun _ _ h => h) (Nat.le_refl _)
  have hlt1 : ∀ x ∈ p1, x.block < W.heap.size := by
    obtain ⟨n, hn⟩ := g1
    exact DataW.trod_lt n _ _ _ hn
  exact ⟨_, rfl, _, _, _, [], _, [], hW', trodAll_mk1 (shut_bool Tryd.underlying4 _),
    (trodAll_cons_mk (shut_int Tryd.underlying3 w0) (trodAll_cons_mk (bel.trod (by kernel_rfl) (by kernel_rfl) (of_decide_eq_true (by kernel_rfl)) g1 hlt1) trodAll_mk0)), rfl, bel.frame _, fun h => by cases h⟩

theorem diskPlays_holds : Rows.DiskPlaysSaid :=
  OpenClaim.holds_of_wide 5 Tryd.f5 rfl rfl rfl rfl rfl rfl rfl ⟨rfl, rfl, rfl, rfl, rfl⟩ rfl rfl rfl rfl rfl (by kernel_rfl) Tryd.func5 (by kernel_rfl)
    (of_decide_eq_true (by kernel_rfl)) (by unfold Func.isWrapper; first | (rw [if_pos (by decide +kernel)]; kernel_rfl) | (rw [if_neg (by decide +kernel)]; exact ⟨rfl, rfl⟩))
    (fun os started H enc _ => plays_lifted os started H enc)

theorem diskPlays_card : Rows.DiskPlaysCardSaid :=
  Claim7.holds_tied_plain_at .later [] [.sentinel, .sentinel, .sentinel, .sentinel, .sentinel, .sentinel, .sentinel, .sentinel, .sentinel, .sentinel, .sentinel, .sentinel, .sentinel, .sentinel, .sentinel, .sentinel, .sentinel, .sentinel, .sentinel, .sentinel, .sentinel, .sentinel] true (true, "48cf90c4cba88853af2aacf9ff2ec9e0668608cea82c7d94e0dd247ee753e4d7") true
    diskPlays_holds (fun _ h => by cases h) (by kernel_rfl) (fun _ h => by cases h) diskPlays_row_tie rfl ⟨rfl, rfl⟩ (by kernel_rfl) rfl
    (fun f fn hf hfn => by
      obtain rfl : f = 5 := Option.some.inj ((show Tryd.prog.funcNamed "cartage/cartagelaw04.DiskPlays" = some 5 by kernel_rfl).symm.trans hf) |>.symm
      obtain rfl : fn = Tryd.f5 := (Option.some.inj (Tryd.func5.symm.trans hfn)).symm
      exact ⟨by kernel_rfl, fun j t ht => by
        rw [Tryd.params5] at ht
        have hm : t ∈ [3, 36] := by simpa using Array.mem_of_getElem? ht
        have hall : ([3, 36].all fun u => !Tryd.prog.wantsStandIn u) = true := by kernel_rfl
        exact (show Tryd.prog.wantsStandIn t = false by simpa using List.all_eq_true.1 hall t hm)⟩)
    (by kernel_rfl)
#print axioms diskPlays_card
end Go.Proofs.YtlkmpjanchhahaaDoor
