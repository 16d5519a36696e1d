/- The example of chapter 04 (cartagelaw04.alive) holds. -/
import Derived.Test.YtlkmpjanchhahaaDoorDisk5
import Derived.Test.YtlkmpjanchhahaaDoorNum
import Derived.Test.YtlkmpjanchhahaaDoorStr
import Derived.Test.YtlkmpjanchhahaaDoorOps2
namespace Go.Proofs.YtlkmpjanchhahaaDoor
open Go.RowKit
set_option linter.unusedSimpArgs false
set_option linter.unusedVariables false

set_option maxRecDepth 20000 in
theorem alive_c (ea : Nat → Addr) (B : Nat) (w : World) (hE : Errs ea B w) :
    Calls Tryd.prog 8 #[] w fun r w' => r = .returned (.bool true) ∧ Upd (fun _ => False) w w' := by
  have hnew := new_ok B w 3 (by omega) (by omega) hE.hB
  have HE := Lib.hid hE
  have kc := fun (w : World) (C : Array Value) (n c : Nat) => Lib.run_convert_bytes_const (P := Tryd.prog) w 33 5 C n c Tryd.underlying33 Tryd.underlying5
  clear hE
  go_enter Tryd.func8, Tryd.ntmps8
  go_wp2_with fail
  refine hnew.mono ?_
  rintro r w1 ⟨b, rfl, hD, hu⟩
  have HD := Lib.hid hD
  have HU := Lib.hid hu
  clear hnew hD hu
  go_wp2_with fail
  have hu1 : Upd (fun _ => False) w (w1.alloc (.cells #[.int .u8 97] 5 (1, 2))) := HU.out.alloc _
  have hw := write_c ea B _ (w1.alloc (.cells #[.int .u8 97] 5 (1, 2))) b (DM.new 3) (HD.out.upd ((Upd.refl (fun _ => False) w1).alloc _) (fun _ _ h => h)) (HE.out.upd hu1 (fun _ h => h.elim)) 1 (.slice (some ⟨w1.heap.size, 0, none⟩) 1 1) [97]
    ⟨_, _, rfl, fun _ => ⟨_, rfl, fun j u hj => by
      rw [Addr.add_mid, Nat.zero_add, World.cell?_alloc_mark]
      exact (by simpa [u8s, u8] using hj)⟩⟩
    (fun _ e => by
      have e' : w1.heap.size = b := by injection e
      obtain ⟨m, pv, o1, _, _, _, o5, _⟩ := HD.out
      have := o5 b o1
      omega) (by decide) (by decide)
  have e1 : (DM.new 3).write 1 [97] = (none, { DM.new 3 with deeds := 1, pend := [(1, pad32 [97])] }) := rfl
  rw [e1] at hw
  refine hw.mono ?_
  rintro r w2 ⟨rfl, ⟨O2, hD2, hO2⟩, hu2⟩
  have hu2' : Upd (fun _ => False) w w2 := hu1.then hu2 (fun i hi h => by have := h.1; omega)
  have hO2' : ∀ k, O2 k → w.heap.size ≤ k := fun k hk => by
    rcases hO2 k hk with h | h
    · exact h.1
    · have := hu1.size; omega
  have HD2 := Lib.hid hD2
  have HU2 := Lib.hid hu2'
  have HO2 := Lib.hid hO2'
  clear hw hD2 hO2 hu2 hu2' hO2' e1 hu1
  simp only [ev]
  go_wp2_with fail
  have ha := arm_c ea B O2 w2 b _ HD2.out (HE.out.upd HU2.out (fun _ h => h.elim)) 0 (by decide)
  have e2 : DM.arm { DM.new 3 with deeds := 1, pend := [(1, pad32 [97])] } 0 = (none, { DM.new 3 with deeds := 1, left := 0, pend := [(1, pad32 [97])] }) := rfl
  rw [e2] at ha
  refine ha.mono ?_
  rintro r w3 ⟨rfl, hD3, hu3⟩
  have hu3' : Upd (fun _ => False) w w3 := HU2.out.then hu3 (fun i hi h => by
    subst h
    obtain ⟨m, pv, o1, _⟩ := HD2.out
    have := HO2.out _ o1
    omega)
  have HD3 := Lib.hid hD3
  have HU3 := Lib.hid hu3'
  clear ha hD3 hu3 hu3' e2
  simp only [ev]
  go_wp2_with fail
  have hs := sync_c ea B O2 w3 b _ HD3.out (HE.out.upd HU3.out (fun _ h => h.elim)) (by decide)
  have e3 : DM.sync { DM.new 3 with deeds := 1, left := 0, pend := [(1, pad32 [97])] } = (some 1, { DM.new 3 with deeds := 1, left := 0, off := true, pend := [(1, pad32 [97])] }) := rfl
  rw [e3] at hs
  refine hs.mono ?_
  rintro r w4 ⟨rfl, hD4, hu4⟩
  have hu4' : Upd (fun _ => False) w w4 := HU3.out.then hu4 (fun i hi h => by have := HO2.out _ h; omega)
  have HD4 := Lib.hid hD4
  have HU4 := Lib.hid hu4'
  clear hs hD4 hu4 hu4' e3
  go_wp2_with fail
  have hn := num_c ea B w4 (HE.out.upd HU4.out (fun _ h => h.elim)) (some 1) (by intro g hg; injection hg with hg; omega)
  have e4 : numOf (some 1) = 16 := rfl
  rw [e4] at hn
  refine hn.mono ?_
  rintro r w5 ⟨rfl, hu5⟩
  have hu5' : Upd (fun _ => False) w w5 := HU4.out.then hu5 (fun _ _ h => h)
  have hD5 := HD4.out.upd hu5 (fun _ _ h => h)
  have HD5 := Lib.hid hD5
  have HU5 := Lib.hid hu5'
  clear hn hu5 hu5' e4 hD5
  go_wp2_with fail
  have hc := crash_c B O2 w5 b _ HD5.out (.slice none 0 0) [] ⟨_, _, rfl, fun h => absurd h (by decide)⟩ (fun _ k hk => by cases hk)
  have e5 : DM.crash { DM.new 3 with deeds := 1, left := 0, off := true, pend := [(1, pad32 [97])] } [] = (0, { DM.new 3 with deeds := 1 }) := rfl
  rw [e5] at hc
  refine hc.mono ?_
  rintro r w6 ⟨rfl, hD6, hu6⟩
  have hu6' : Upd (fun _ => False) w w6 := HU5.out.then hu6 (fun i hi h => by have := HO2.out _ h; omega)
  have HD6 := Lib.hid hD6
  have HU6 := Lib.hid hu6'
  clear hc hD6 hu6 hu6' e5
  go_wp2_with fail
  have hr := read_c ea B O2 w6 b _ HD6.out (HE.out.upd HU6.out (fun _ h => h.elim)) 1
  refine hr.mono ?_
  rintro r w7 ⟨v, hr7, hv, hu7⟩
  have e6 : ({ DM.new 3 with deeds := 1 } : DM).seen 1 = zero32 := rfl
  rw [if_pos ⟨rfl, rfl⟩, e6] at hv
  have hr7' : r = .returned (.tuple #[v, .nilIface]) := hr7
  subst hr7'
  obtain ⟨g, t, rfl, hb⟩ := hv
  have hu7' : Upd (fun _ => False) w w7 := HU6.out.then hu7 (fun _ _ h => h)
  have HU7 := Lib.hid hu7'
  have HB := Lib.hid hb
  clear hr hu7 hu7' e6 hr7 hb
  go_wp2_with fail
  have z32 : zero32.length = 32 := zero32_length
  have c4 : ∀ W : World, Upd (fun _ => False) w7 W → (convert 33 9 (.slice (some ⟨g, 0, none⟩) zero32.length zero32.length)).run Tryd.prog W = .ok (.string (bs zero32)) W := fun W hW =>
    run_str Tryd.prog W 33 5 9 Tryd.underlying33 Tryd.underlying5 Tryd.underlying9 _ zero32 (BytesAt.r ⟨g, t, rfl, HB.out.upd hW (fun h => h)⟩)
  have m5 : ∀ W : World, (Instr.makeSlice 33 (.int .i64 32) (.int .i64 32)).run Tryd.prog W = .ok (.slice (some ⟨W.heap.size, 0, none⟩) 32 32) (W.alloc (.cells (List.replicate 32 (Value.int .u8 0)).toArray 5)) := fun W =>
    run_make_cells 33 5 (.int .u8 0) 1 Tryd.underlying33 (by kernel_rfl) rfl 32 (by omega) (by omega)
  have c6 : ∀ W : World, (convert 33 9 (.slice (some ⟨W.heap.size, 0, none⟩) 32 32)).run Tryd.prog (W.alloc (.cells (List.replicate 32 (Value.int .u8 0)).toArray 5)) = .ok (.string (bs zero32)) (W.alloc (.cells (List.replicate 32 (Value.int .u8 0)).toArray 5)) := fun W =>
    run_str Tryd.prog _ 33 5 9 Tryd.underlying33 Tryd.underlying5 Tryd.underlying9 _ zero32 (BytesAt.r ⟨W.heap.size, 5, rfl, Blk.new W 5 _⟩)
  have C4 := Lib.hid c4
  have M5 := Lib.hid m5
  have C6 := Lib.hid c6
  rw [z32] at C4 ⊢
  clear z32 c4 m5 c6
  refine wp_region_any (by kernel_rfl) ?_
  change wpAny _ _ _ _ _ _ _ (World.drew _)
  have u7 : Upd (fun _ => False) w7 w7.drew := (Upd.refl _ _).drew
  refine any_take (i := 0) .nilIface rfl (by kernel_rfl) (by kernel_rfl) (by kernel_rfl) (fun _ _ _ h => h) (by rfl) (fun W => by go_simp) ?_
  refine any_take (i := 1) (.bool true) rfl (by kernel_rfl) (by kernel_rfl) (by kernel_rfl) (fun _ _ _ h => h) (by rfl) (fun W => by go_simp) ?_
  refine any_take (i := 2) (.bool true) rfl (by kernel_rfl) (by kernel_rfl) (by kernel_rfl) (fun _ _ _ h => h) (by rfl) (fun W => by go_simp) ?_
  refine any_take (i := 3) (.slice (some ⟨g, 0, none⟩) 32 32) rfl (by kernel_rfl) (by kernel_rfl) (by kernel_rfl) (fun _ _ _ h => h) (by rfl) (fun W => by go_simp) ?_
  simp only [Act.put, List.setIfInBounds_toArray, List.set_cons_zero, List.set_cons_succ]
  refine any_two_g (i := 4) (j := 5) rfl rfl (by rfl) (by rfl) (by kernel_rfl) (fun K hK => wp_run (exec_convert 33 9 (.tmp 43) rfl (C4.out _ u7)) (hK _ _ ?h4)) (fun K hK => wp_run (exec_makeSlice 33 (.const (.int .i64 32)) (.const (.int .i64 32)) rfl (M5.out _)) (hK _ _ ?h5))
  case' h4 =>
    simp only [Act.put, List.setIfInBounds_toArray, List.set_cons_zero, List.set_cons_succ]
    refine any_one_g (i := 5) rfl (by rfl) (by kernel_rfl) (fun K hK => wp_run (exec_makeSlice 33 (.const (.int .i64 32)) (.const (.int .i64 32)) rfl (M5.out _)) (hK _ _ ?_))
    simp only [Act.put, List.setIfInBounds_toArray, List.set_cons_zero, List.set_cons_succ]
    refine any_one_g (i := 6) rfl (by rfl) (by kernel_rfl) (fun K hK => wp_run (exec_convert 33 9 (.tmp 45) rfl (C6.out _)) (hK _ _ ?_))
    simp only [Act.put, List.setIfInBounds_toArray, List.set_cons_zero, List.set_cons_succ]
  case' h5 =>
    simp only [Act.put, List.setIfInBounds_toArray, List.set_cons_zero, List.set_cons_succ]
    refine any_two_g (i := 4) (j := 6) rfl rfl (by rfl) (by rfl) (by kernel_rfl) (fun K hK => wp_run (exec_convert 33 9 (.tmp 43) rfl (C4.out _ (u7.alloc _))) (hK _ _ ?h54)) (fun K hK => wp_run (exec_convert 33 9 (.tmp 45) rfl (C6.out _)) (hK _ _ ?h56))
    case' h54 =>
      simp only [Act.put, List.setIfInBounds_toArray, List.set_cons_zero, List.set_cons_succ]
      refine any_one_g (i := 6) rfl (by rfl) (by kernel_rfl) (fun K hK => wp_run (exec_convert 33 9 (.tmp 45) rfl (C6.out _)) (hK _ _ ?_))
      simp only [Act.put, List.setIfInBounds_toArray, List.set_cons_zero, List.set_cons_succ]
    case' h56 =>
      simp only [Act.put, List.setIfInBounds_toArray, List.set_cons_zero, List.set_cons_succ]
      refine any_one_g (i := 4) rfl (by rfl) (by kernel_rfl) (fun K hK => wp_run (exec_convert 33 9 (.tmp 43) rfl (C4.out _ (u7.alloc _))) (hK _ _ ?_))
      simp only [Act.put, List.setIfInBounds_toArray, List.set_cons_zero, List.set_cons_succ]
  all_goals
    have hu8 : Upd (fun _ => False) w (w7.drew.alloc (.cells (List.replicate 32 (Value.int .u8 0)).toArray 5)) := HU7.out.drew.alloc _
    generalize w7.drew.alloc (.cells (List.replicate 32 (Value.int .u8 0)).toArray 5) = W8 at hu8 ⊢
    have HU8 := Lib.hid hu8
    clear hu8
    refine any_take (i := 7) (.bool true) rfl (by kernel_rfl) (by kernel_rfl) (by kernel_rfl) (fun _ _ _ h => h) (by rfl) (fun W => by go_simp) ?_
    refine any_take (i := 8) (.bool true) rfl (by kernel_rfl) (by kernel_rfl) (by kernel_rfl) (fun _ _ _ h => h) (by rfl) (fun W => by go_simp) ?_
    refine any_take (i := 9) (.bool true) rfl (by kernel_rfl) (by kernel_rfl) (by kernel_rfl) (fun _ _ _ h => h) (by rfl) (fun W => by go_simp) ?_
    refine wpAny_done (by kernel_rfl) ?_ _
    simp only [Act.put, List.setIfInBounds_toArray, List.set_cons_zero, List.set_cons_succ]
    go_wp2_with fail
    go_ret
    exact ⟨rfl, HU8.out⟩
end Go.Proofs.YtlkmpjanchhahaaDoor
