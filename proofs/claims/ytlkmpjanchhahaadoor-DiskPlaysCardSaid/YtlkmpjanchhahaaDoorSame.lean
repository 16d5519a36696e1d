/- cartagelaw04.same: a disk and its model that are alike are told the same. -/
import Derived.Test.YtlkmpjanchhahaaDoorMarks
namespace Go.Proofs.YtlkmpjanchhahaaDoor
open Go Go.RowKit
set_option linter.unusedSimpArgs false
set_option linter.unusedVariables false

/-- The disk and the document's disk are alike. -/
structure Rel (D : DM) (R : RM) : Prop where
  size : D.size = R.safe.length
  safe : ∀ i (h : i < R.safe.length), R.safe[i] = mget D.safe i
  pend : R.pend = D.pend
  left : R.left = D.left
  off : R.off = D.off
  deeds : R.deeds = D.deeds
  uniq : Uniq D.safe
theorem Rel.has {D : DM} {R : RM} (h : Rel D R) (i : Int) : R.has i = D.has i := by unfold RM.has DM.has; rw [h.size]
theorem Rel.seen {D : DM} {R : RM} (h : Rel D R) (i : Nat) (hi : i < R.safe.length) : R.seen i = D.seen i := by
  unfold RM.seen DM.seen
  rw [h.pend, ← h.safe i hi]
  simp [List.getD, hi]

theorem neq_nil (W : World) (x y : Operand) : (eqGuard .neq 25 x (.const .nilIface) .nilIface .nilIface).run Tryd.prog W = .ok () W ∧ (binOp .neq 25 .nilIface .nilIface).run Tryd.prog W = .ok (.bool false) W := by
  refine ⟨?_, ?_⟩
  · cases x <;> simp [eqGuard, go_sem]
  · go_simp
theorem eql_nil (W : World) (x y : Operand) : (eqGuard .eql 25 x (.const .nilIface) .nilIface .nilIface).run Tryd.prog W = .ok () W ∧ (binOp .eql 25 .nilIface .nilIface).run Tryd.prog W = .ok (.bool true) W := by
  refine ⟨?_, ?_⟩
  · cases x <;> simp [eqGuard, go_sem]
  · go_simp

set_option maxRecDepth 100000 in
set_option maxHeartbeats 4000000 in
theorem same_c (ea : Nat → Addr) (B : Nat) (O P : Nat → Prop) (w : World) (b rb : Nat) (D : DM) (R : RM) (hE : Errs ea B w) (hD : DiskIn B O w b D) (hR : RefIn B P w rb R) (hrel : Rel D R) (i : Int) :
    Calls Tryd.prog 28 #[.pointer (some ⟨b, 0, none⟩), .pointer (some ⟨rb, 0, none⟩), .int .i64 i] w fun r w' => r = .returned (.bool true) ∧ Upd (fun _ => False) w w' := by
  have hread := read_c ea B O w b D hD hE i
  have HE := Lib.hid hE
  have HD := Lib.hid hD
  have HR := Lib.hid hR
  have HREL := Lib.hid hrel
  clear hE hD hR hrel
  go_enter Tryd.func28, Tryd.ntmps28
  go_wp2_with fail
  refine hread.mono ?_
  rintro r w1 ⟨v1, rfl, hv1, hu1⟩
  have hsafe := safe_c ea B O w1 b D (HD.out.upd hu1 (fun _ _ h => h)) (HE.out.upd hu1 (fun _ h => h.elim)) i
  have HV1 := Lib.hid hv1
  have HU1 := Lib.hid hu1
  clear hread hv1 hu1
  generalize he1 : ev ea (if D.off = true then some 1 else if D.has i = true then none else some 0) = e1
  have HE1 := Lib.hid he1
  clear he1
  go_wp2_with fail
  refine hsafe.mono ?_
  rintro r w2 ⟨v2, rfl, hv2, hu2⟩
  have HV2 := Lib.hid hv2
  have hu02 : Upd (fun _ => False) w w2 := HU1.out.then hu2 (fun _ _ h => h)
  have HU2 := Lib.hid hu2
  have HU02 := Lib.hid hu02
  clear hsafe hv2 hu2 hu02
  generalize he2 : ev ea (if D.has i = true then none else some 0) = e2
  have HE2 := Lib.hid he2
  clear he2
  go_wp2_with fail
  have hud : Upd (fun _ => False) w w2.drew := HU02.out.drew
  have hDd := HD.out.upd hud (fun _ _ h => h)
  obtain ⟨sv, av, bv, vs, us, hRr⟩ := HR.out.upd hud (fun _ _ h => h)
  obtain ⟨SA, sc, rfl, hsc⟩ := row_open hRr.rs
  obtain ⟨AA, ac, rfl, _⟩ := row_open hRr.ra
  have k0 : w2.drew.cell? ⟨rb, 0, none⟩ = some (.slice SA R.safe.length sc) := hRr.blk.cell 0
  have k1 : w2.drew.cell? ⟨rb, 1, none⟩ = some (.slice AA R.pend.length ac) := hRr.blk.cell 1
  have k4 : w2.drew.cell? ⟨rb, 4, none⟩ = some (.bool R.off) := hRr.blk.cell 4
  have k5 : w2.drew.cell? ⟨rb, 5, none⟩ = some (.int .i64 R.deeds) := hRr.blk.cell 5
  have csz := size_c w2.drew b D hDd
  have cpn := pending_c w2.drew b D hDd
  have cof := off_c w2.drew b D hDd
  have cdd := deeds_c w2.drew b D hDd
  have t0 : ((D.size : Int) != R.safe.length) = false := by rw [HREL.out.size]; simp
  have t1 : ((D.pend.length : Int) != R.pend.length) = false := by rw [HREL.out.pend]; simp
  have t2 : ((D.off : Bool) != R.off) = false := by rw [HREL.out.off]; simp
  have t3 : ((D.deeds : Int) != R.deeds) = false := by rw [HREL.out.deeds]; simp
  refine wp_region_pl (by kernel_rfl) (fun W => W = w2.drew) 36 [(0, 0), (2, 0), (3, 0), (4, 0), (5, 1), (6, 0), (1, 2), (7, 0), (8, 0), (9, 0), (11, 0), (12, 0), (13, 0), (14, 1), (15, 0), (10, 2), (16, 0), (17, 0), (18, 0), (19, 0), (21, 0), (22, 0), (23, 0), (24, 1), (20, 2), (25, 0), (26, 0), (27, 0), (28, 0), (30, 0), (31, 0), (32, 0), (33, 1), (29, 2), (34, 0), (35, 0)] (by kernel_rfl) (by kernel_rfl) (fun _ _ _ _ _ h => h) (rfl) ?_
  generalize hfr : (Act.mk _ _) = a0
  have hsz : a0.tmps.size = 123 := by rw [← hfr]; rfl
  have e0 : a0.eval (.tmp 0) = .pointer (some ⟨b, 0, none⟩) := by rw [← hfr]; rfl
  have e1 : a0.eval (.tmp 1) = .pointer (some ⟨rb, 0, none⟩) := by rw [← hfr]; rfl
  refine pl_pure (.pointer (some ⟨b, 0, none⟩)) rfl (wanted_none rfl) (fun W => exec_move (.tmp 0) rfl (by simp [ev_put, sz_put, hsz, e0])) ?_
  refine pl_pure (.pointer (some ⟨rb, 0, none⟩)) rfl (wanted_none rfl) (fun W => exec_move (.tmp 1) rfl (by simp [ev_put, sz_put, hsz, e1])) ?_
  refine pl_pure (.pointer (some ⟨rb, 0, none⟩)) rfl (wanted_none rfl) (fun W => exec_nil (.tmp 26) rfl (ad := ⟨rb, 0, none⟩) (by simp [ev_put, sz_put, hsz])) ?_
  refine pl_pure (.pointer (some ⟨rb, 0, none⟩)) rfl (wanted_none rfl) (fun W => exec_field 90 (.tmp 27) 0 0 64 rfl (b := rb) (q := 0) (by simp [ev_put, sz_put, hsz]) Tryd.underlying90 rfl (by kernel_rfl)) ?_
  refine pl_held (.slice SA R.safe.length sc) rfl (wanted_none rfl) (fun W hW => exec_load1 64 (.tmp 28) rfl (ad := ⟨rb, 0, none⟩) (v := .slice SA R.safe.length sc) (by simp [ev_put, sz_put, hsz]) Tryd.underlying64 rfl (by rw [hW]; exact k0)) ?_
  refine pl_pure (.int .i64 R.safe.length) rfl (wanted_none rfl) (fun W => exec_len (.tmp 29) 64 _ rfl (ad := SA) (n := R.safe.length) (c := sc) (by simp [ev_put, sz_put, hsz]) Tryd.underlying64) ?_
  refine pl_calls 55 #[.tmp 24] #[23] rfl (wanted_none rfl) rfl Tryd.f55 Tryd.func55 (by kernel_rfl) (by kernel_rfl) #[.pointer (some ⟨b, 0, none⟩)] (by simp [ev_put, sz_put, hsz]) csz ?_
  rintro r w' ⟨rfl, rfl⟩
  refine ⟨_, rfl, rfl, ?_⟩
  refine pl_pure (.bool false) rfl (wanted_none rfl) (fun W => (exec_neqI 3 3 (.tmp 25) (.tmp 30) rfl (k := .i64) (m := D.size) (n := R.safe.length) (by simp [ev_put, sz_put, hsz]) (by simp [ev_put, sz_put, hsz])).trans (by rw [show ((D.size : Int) != R.safe.length) = false from t0])) ?_
  refine pl_pure (.bool false) rfl (wanted_none rfl) (fun W => exec_move (.tmp 31) rfl (by simp [ev_put, sz_put, hsz])) ?_
  refine pl_pure (.pointer (some ⟨b, 0, none⟩)) rfl (wanted_of (b := false) rfl rfl (by simp [sz_put, hsz]) (by simp [ev_put, sz_put, hsz]) rfl) (fun W => exec_move (.tmp 0) rfl (by simp [ev_put, sz_put, hsz, e0])) ?_
  refine pl_pure (.pointer (some ⟨rb, 0, none⟩)) rfl (wanted_of (b := false) rfl rfl (by simp [sz_put, hsz]) (by simp [ev_put, sz_put, hsz]) rfl) (fun W => exec_move (.tmp 1) rfl (by simp [ev_put, sz_put, hsz, e1])) ?_
  refine pl_pure (.pointer (some ⟨rb, 0, none⟩)) rfl (wanted_of (b := false) rfl rfl (by simp [sz_put, hsz]) (by simp [ev_put, sz_put, hsz]) rfl) (fun W => exec_nil (.tmp 35) rfl (ad := ⟨rb, 0, none⟩) (by simp [ev_put, sz_put, hsz])) ?_
  refine pl_pure (.pointer (some ⟨rb, 1, none⟩)) rfl (wanted_of (b := false) rfl rfl (by simp [sz_put, hsz]) (by simp [ev_put, sz_put, hsz]) rfl) (fun W => exec_field 90 (.tmp 36) 1 1 88 rfl (b := rb) (q := 0) (by simp [ev_put, sz_put, hsz]) Tryd.underlying90 rfl (by kernel_rfl)) ?_
  refine pl_held (.slice AA R.pend.length ac) rfl (wanted_of (b := false) rfl rfl (by simp [sz_put, hsz]) (by simp [ev_put, sz_put, hsz]) rfl) (fun W hW => exec_load1 88 (.tmp 37) rfl (ad := ⟨rb, 1, none⟩) (v := .slice AA R.pend.length ac) (by simp [ev_put, sz_put, hsz]) Tryd.underlying88 rfl (by rw [hW]; exact k1)) ?_
  refine pl_pure (.int .i64 R.pend.length) rfl (wanted_of (b := false) rfl rfl (by simp [sz_put, hsz]) (by simp [ev_put, sz_put, hsz]) rfl) (fun W => exec_len (.tmp 38) 88 _ rfl (ad := AA) (n := R.pend.length) (c := ac) (by simp [ev_put, sz_put, hsz]) Tryd.underlying88) ?_
  refine pl_calls 16 #[.tmp 33] #[23] rfl (wanted_of (b := false) rfl rfl (by simp [sz_put, hsz]) (by simp [ev_put, sz_put, hsz]) rfl) rfl Tryd.f16 Tryd.func16 (by kernel_rfl) (by kernel_rfl) #[.pointer (some ⟨b, 0, none⟩)] (by simp [ev_put, sz_put, hsz]) cpn ?_
  rintro r w' ⟨rfl, rfl⟩
  refine ⟨_, rfl, rfl, ?_⟩
  refine pl_pure (.bool false) rfl (wanted_of (b := false) rfl rfl (by simp [sz_put, hsz]) (by simp [ev_put, sz_put, hsz]) rfl) (fun W => (exec_neqI 3 3 (.tmp 34) (.tmp 39) rfl (k := .i64) (m := D.pend.length) (n := R.pend.length) (by simp [ev_put, sz_put, hsz]) (by simp [ev_put, sz_put, hsz])).trans (by rw [show ((D.pend.length : Int) != R.pend.length) = false from t1])) ?_
  refine pl_pure (.bool false) rfl (wanted_none rfl) (fun W => exec_pick (.tmp 32) (.const (.bool true)) (.tmp 40) rfl (b := false) (by simp [ev_put, sz_put, hsz]) (by simp [ev_put, sz_put, hsz, ev_const])) ?_
  refine pl_pure (.bool false) rfl (wanted_none rfl) (fun W => exec_move (.tmp 41) rfl (by simp [ev_put, sz_put, hsz])) ?_
  refine pl_pure (.pointer (some ⟨b, 0, none⟩)) rfl (wanted_of (b := false) rfl rfl (by simp [sz_put, hsz]) (by simp [ev_put, sz_put, hsz]) rfl) (fun W => exec_move (.tmp 0) rfl (by simp [ev_put, sz_put, hsz, e0])) ?_
  refine pl_pure (.pointer (some ⟨rb, 0, none⟩)) rfl (wanted_of (b := false) rfl rfl (by simp [sz_put, hsz]) (by simp [ev_put, sz_put, hsz]) rfl) (fun W => exec_move (.tmp 1) rfl (by simp [ev_put, sz_put, hsz, e1])) ?_
  refine pl_pure (.pointer (some ⟨rb, 0, none⟩)) rfl (wanted_of (b := false) rfl rfl (by simp [sz_put, hsz]) (by simp [ev_put, sz_put, hsz]) rfl) (fun W => exec_nil (.tmp 45) rfl (ad := ⟨rb, 0, none⟩) (by simp [ev_put, sz_put, hsz])) ?_
  refine pl_pure (.pointer (some ⟨rb, 4, none⟩)) rfl (wanted_of (b := false) rfl rfl (by simp [sz_put, hsz]) (by simp [ev_put, sz_put, hsz]) rfl) (fun W => exec_field 90 (.tmp 46) 4 4 4 rfl (b := rb) (q := 0) (by simp [ev_put, sz_put, hsz]) Tryd.underlying90 rfl (by kernel_rfl)) ?_
  refine pl_held (.bool R.off) rfl (wanted_of (b := false) rfl rfl (by simp [sz_put, hsz]) (by simp [ev_put, sz_put, hsz]) rfl) (fun W hW => exec_load1 4 (.tmp 47) rfl (ad := ⟨rb, 4, none⟩) (v := .bool R.off) (by simp [ev_put, sz_put, hsz]) Tryd.underlying4 rfl (by rw [hW]; exact k4)) ?_
  refine pl_calls 15 #[.tmp 43] #[23] rfl (wanted_of (b := false) rfl rfl (by simp [sz_put, hsz]) (by simp [ev_put, sz_put, hsz]) rfl) rfl Tryd.f15 Tryd.func15 (by kernel_rfl) (by kernel_rfl) #[.pointer (some ⟨b, 0, none⟩)] (by simp [ev_put, sz_put, hsz]) cof ?_
  rintro r w' ⟨rfl, rfl⟩
  refine ⟨_, rfl, rfl, ?_⟩
  refine pl_pure (.bool false) rfl (wanted_of (b := false) rfl rfl (by simp [sz_put, hsz]) (by simp [ev_put, sz_put, hsz]) rfl) (fun W => (exec_neqB 4 4 (.tmp 44) (.tmp 48) rfl (m := D.off) (n := R.off) (by simp [ev_put, sz_put, hsz]) (by simp [ev_put, sz_put, hsz]) Tryd.underlying4).trans (by rw [show ((D.off : Bool) != R.off) = false from t2])) ?_
  refine pl_pure (.bool false) rfl (wanted_none rfl) (fun W => exec_pick (.tmp 42) (.const (.bool true)) (.tmp 49) rfl (b := false) (by simp [ev_put, sz_put, hsz]) (by simp [ev_put, sz_put, hsz, ev_const])) ?_
  refine pl_pure (.bool false) rfl (wanted_none rfl) (fun W => exec_move (.tmp 50) rfl (by simp [ev_put, sz_put, hsz])) ?_
  refine pl_pure (.pointer (some ⟨b, 0, none⟩)) rfl (wanted_of (b := false) rfl rfl (by simp [sz_put, hsz]) (by simp [ev_put, sz_put, hsz]) rfl) (fun W => exec_move (.tmp 0) rfl (by simp [ev_put, sz_put, hsz, e0])) ?_
  refine pl_pure (.pointer (some ⟨rb, 0, none⟩)) rfl (wanted_of (b := false) rfl rfl (by simp [sz_put, hsz]) (by simp [ev_put, sz_put, hsz]) rfl) (fun W => exec_move (.tmp 1) rfl (by simp [ev_put, sz_put, hsz, e1])) ?_
  refine pl_pure (.pointer (some ⟨rb, 0, none⟩)) rfl (wanted_of (b := false) rfl rfl (by simp [sz_put, hsz]) (by simp [ev_put, sz_put, hsz]) rfl) (fun W => exec_nil (.tmp 54) rfl (ad := ⟨rb, 0, none⟩) (by simp [ev_put, sz_put, hsz])) ?_
  refine pl_pure (.pointer (some ⟨rb, 5, none⟩)) rfl (wanted_of (b := false) rfl rfl (by simp [sz_put, hsz]) (by simp [ev_put, sz_put, hsz]) rfl) (fun W => exec_field 90 (.tmp 55) 5 5 3 rfl (b := rb) (q := 0) (by simp [ev_put, sz_put, hsz]) Tryd.underlying90 rfl (by kernel_rfl)) ?_
  refine pl_held (.int .i64 R.deeds) rfl (wanted_of (b := false) rfl rfl (by simp [sz_put, hsz]) (by simp [ev_put, sz_put, hsz]) rfl) (fun W hW => exec_load1 3 (.tmp 56) rfl (ad := ⟨rb, 5, none⟩) (v := .int .i64 R.deeds) (by simp [ev_put, sz_put, hsz]) Tryd.underlying3 rfl (by rw [hW]; exact k5)) ?_
  refine pl_calls 14 #[.tmp 52] #[23] rfl (wanted_of (b := false) rfl rfl (by simp [sz_put, hsz]) (by simp [ev_put, sz_put, hsz]) rfl) rfl Tryd.f14 Tryd.func14 (by kernel_rfl) (by kernel_rfl) #[.pointer (some ⟨b, 0, none⟩)] (by simp [ev_put, sz_put, hsz]) cdd ?_
  rintro r w' ⟨rfl, rfl⟩
  refine ⟨_, rfl, rfl, ?_⟩
  refine pl_pure (.bool false) rfl (wanted_of (b := false) rfl rfl (by simp [sz_put, hsz]) (by simp [ev_put, sz_put, hsz]) rfl) (fun W => (exec_neqI 3 3 (.tmp 53) (.tmp 57) rfl (k := .i64) (m := D.deeds) (n := R.deeds) (by simp [ev_put, sz_put, hsz]) (by simp [ev_put, sz_put, hsz])).trans (by rw [show ((D.deeds : Int) != R.deeds) = false from t3])) ?_
  refine pl_pure (.bool false) rfl (wanted_none rfl) (fun W => exec_pick (.tmp 51) (.const (.bool true)) (.tmp 58) rfl (b := false) (by simp [ev_put, sz_put, hsz]) (by simp [ev_put, sz_put, hsz, ev_const])) ?_
  refine pl_done ?_
  rw [← hfr]
  simp only [Act.put, List.setIfInBounds_toArray, List.set_cons_zero, List.set_cons_succ]
  have HRR := Lib.hid hRr
  have HDD := Lib.hid hDd
  have HUD := Lib.hid hud
  have HSC := Lib.hid hsc
  clear hfr hsz e0 e1 csz cpn cof cdd t0 t1 t2 t3 k1 k5 hRr hDd hud hsc
  have hEd := HE.out.upd HUD.out (fun _ h => h.elim)
  have HED := Lib.hid hEd
  have hhas := rhas_c rb i SA R.safe.length sc w2.drew k0 HRR.out.ok.size
  rw [show (decide (0 ≤ i) && decide (i < R.safe.length)) = D.has i from HREL.out.has i] at hhas
  clear hEd
  go_wp2_with fail
  refine hhas.mono ?_
  rintro r w3 ⟨rfl, rfl⟩
  clear hhas
  cases hh : D.has i
  · have ev1 : v1 = .slice none 0 0 := by have := HV1.out; rwa [if_neg (by rw [hh]; simp)] at this
    have ev2 : v2 = .slice none 0 0 := by have := HV2.out; rwa [if_neg (by rw [hh]; simp)] at this
    have ee2 : e2 = ev ea (some 0) := by rw [← HE2.out, hh]; rfl
    cases ho : D.off
    · have ee1 : e1 = ev ea (some 0) := by rw [← HE1.out, ho, hh]; rfl
      have n1 := num_c ea B w2.drew HED.out (some 0) (fun g h => by injection h with h; omega)
      rw [show R.off = false by rw [HREL.out.off, ho]] at k4
      subst ev1
      subst ev2
      subst ee1
      subst ee2
      clear hh ho HV1 HV2 HE1 HE2
      go_wp2_with fail
      refine n1.mono ?_
      rintro r w4 ⟨rfl, hu4⟩
      have n2 := num_c ea B w4 (HED.out.upd hu4 (fun _ h => h.elim)) (some 0) (fun g h => by injection h with h; omega)
      have HU4 := Lib.hid (HUD.out.then hu4 (fun _ _ h => h))
      rw [show numOf (some 0) = 1 from rfl] at n2 ⊢
      clear n1 hu4
      go_wp2_with fail
      refine n2.mono ?_
      rintro r w5 ⟨rfl, hu5⟩
      have HU5 := Lib.hid (HU4.out.then hu5 (fun _ _ h => h))
      clear n2 hu5
      go_wp2_with fail
      go_ret
      exact ⟨rfl, HU5.out⟩
    · have ee1 : e1 = ev ea (some 1) := by rw [← HE1.out, ho]; rfl
      have n1 := num_c ea B w2.drew HED.out (some 1) (fun g h => by injection h with h; omega)
      rw [show R.off = true by rw [HREL.out.off, ho]] at k4
      subst ev1
      subst ev2
      subst ee1
      subst ee2
      clear hh ho HV1 HV2 HE1 HE2
      go_wp2_with fail
      refine n1.mono ?_
      rintro r w4 ⟨rfl, hu4⟩
      have n2 := num_c ea B w4 (HED.out.upd hu4 (fun _ h => h.elim)) (some 0) (fun g h => by injection h with h; omega)
      have HU4 := Lib.hid (HUD.out.then hu4 (fun _ _ h => h))
      rw [show numOf (some 0) = 1 from rfl] at n2
      rw [show numOf (some 1) = 16 from rfl]
      clear n1 hu4
      go_wp2_with fail
      refine n2.mono ?_
      rintro r w5 ⟨rfl, hu5⟩
      have HU5 := Lib.hid (HU4.out.then hu5 (fun _ _ h => h))
      clear n2 hu5
      go_wp2_with fail
      go_ret
      exact ⟨rfl, HU5.out⟩
  · have ee2 : e2 = .nilIface := by rw [← HE2.out, hh]; rfl
    have bv2 : BytesAt w2 v2 (mget D.safe i) := by have := HV2.out; rwa [if_pos hh] at this
    obtain ⟨k, hk⟩ : ∃ k : Nat, i = k := ⟨i.toNat, by unfold DM.has at hh; simp at hh; omega⟩
    subst hk
    have hkl : k < R.safe.length := by
      have := HREL.out.has k
      rw [hh] at this
      unfold RM.has at this
      simp at this
      omega
    have hvl : k < vs.length := by rw [HRR.out.ss.1]; exact hkl
    obtain ⟨sg, rfl, hcs, _⟩ := HSC.out k vs[k] (List.getElem?_eq_getElem hvl)
    have hsec := HRR.out.ss.2 k vs[k] R.safe[k] (List.getElem?_eq_getElem hvl) (List.getElem?_eq_getElem hkl)
    rw [HREL.out.safe k hkl] at hsec
    obtain ⟨sk, hsk⟩ : ∃ sk, sk = mget D.safe k := ⟨_, rfl⟩
    rw [← hsk] at hsec bv2
    obtain ⟨sn, hsn⟩ : ∃ sn, sn = R.safe.length := ⟨_, rfl⟩
    have HSN := Lib.hid hsn
    rw [← hsn] at k0 hkl
    have hS10 : w2.drew.drew.cell? ⟨rb, 0, none⟩ = some (.slice (some ⟨sg, 0, none⟩) sn sc) ∧ w2.drew.drew.cell? ⟨sg, k, none⟩ = some vs[k] ∧ BytesR w2.drew.drew v2 sk ∧ BytesR w2.drew.drew vs[k] sk :=
      ⟨k0, hcs, bv2.r.upd (Upd.refl (fun _ => False) w2).drew.drew (fun _ _ h => h), hsec.r.r.upd (Upd.refl (fun _ => False) w2.drew).drew (fun _ _ h => h)⟩
    have HS10 := Lib.hid hS10
    generalize vs[k] = vk at HS10
    subst ee2
    have HH := Lib.hid hh
    clear hh HV2 HE2 bv2 hsec hcs hS10 hsk hsn hvl HSC
    go_wp2_with fail
    refine wp_region_pl (by kernel_rfl) (fun W => W.cell? ⟨rb, 0, none⟩ = some (.slice (some ⟨sg, 0, none⟩) sn sc) ∧ W.cell? ⟨sg, k, none⟩ = some vk ∧ BytesR W v2 sk ∧ BytesR W vk sk) 15 [(0, 0), (1, 0), (2, 0), (3, 0), (4, 1), (5, 0), (6, 0), (7, 0), (8, 1), (9, 0), (10, 0), (11, 1), (12, 1), (13, 0), (14, 0)] (by kernel_rfl) (by kernel_rfl) (fun _ _ _ _ _ h => h) (HS10.out) ?_
    generalize hfr : (Act.mk _ _) = a0
    have hsz : a0.tmps.size = 123 := by rw [← hfr]; rfl
    have e1 : a0.eval (.tmp 1) = .pointer (some ⟨rb, 0, none⟩) := by rw [← hfr]; rfl
    have e2 : a0.eval (.tmp 2) = .int .i64 k := by rw [← hfr]; rfl
    have e9 : a0.eval (.tmp 9) = v2 := by rw [← hfr]; rfl
    have e10 : a0.eval (.tmp 10) = .nilIface := by rw [← hfr]; rfl
    refine pl_pure (.nilIface) rfl (wanted_none rfl) (fun W => exec_move (.tmp 10) rfl (by simp [ev_put, sz_put, hsz, e10])) ?_
    refine pl_pure (.bool false) rfl (wanted_none rfl) (fun W => exec_bin .neq 25 25 (.tmp 85) (.const .nilIface) rfl (xv := .nilIface) (yv := .nilIface) (by simp [ev_put, sz_put, hsz]) rfl (neq_nil W (.tmp 85) (.tmp 85)).1 (neq_nil W (.tmp 85) (.tmp 85)).2) ?_
    refine pl_pure (.bool false) rfl (wanted_none rfl) (fun W => exec_move (.tmp 86) rfl (by simp [ev_put, sz_put, hsz])) ?_
    refine pl_pure (v2) rfl (wanted_of (b := false) rfl rfl (by simp [sz_put, hsz]) (by simp [ev_put, sz_put, hsz]) rfl) (fun W => exec_move (.tmp 9) rfl (by simp [ev_put, sz_put, hsz, e9])) ?_
    refine pl_held (.string (bs sk)) rfl (wanted_of (b := false) rfl rfl (by simp [sz_put, hsz]) (by simp [ev_put, sz_put, hsz]) rfl) (fun W hW => exec_conv 33 9 (.tmp 88) rfl (by simp [ev_put, sz_put, hsz]) (run_str Tryd.prog W 33 5 9 Tryd.underlying33 Tryd.underlying5 Tryd.underlying9 v2 sk (hW.2.2.1))) ?_
    refine pl_pure (.pointer (some ⟨rb, 0, none⟩)) rfl (wanted_of (b := false) rfl rfl (by simp [sz_put, hsz]) (by simp [ev_put, sz_put, hsz]) rfl) (fun W => exec_move (.tmp 1) rfl (by simp [ev_put, sz_put, hsz, e1])) ?_
    refine pl_pure (.pointer (some ⟨rb, 0, none⟩)) rfl (wanted_of (b := false) rfl rfl (by simp [sz_put, hsz]) (by simp [ev_put, sz_put, hsz]) rfl) (fun W => exec_nil (.tmp 90) rfl (ad := ⟨rb, 0, none⟩) (by simp [ev_put, sz_put, hsz])) ?_
    refine pl_pure (.pointer (some ⟨rb, 0, none⟩)) rfl (wanted_of (b := false) rfl rfl (by simp [sz_put, hsz]) (by simp [ev_put, sz_put, hsz]) rfl) (fun W => exec_field 90 (.tmp 91) 0 0 64 rfl (b := rb) (q := 0) (by simp [ev_put, sz_put, hsz]) Tryd.underlying90 rfl (by kernel_rfl)) ?_
    refine pl_held (.slice (some ⟨sg, 0, none⟩) sn sc) rfl (wanted_of (b := false) rfl rfl (by simp [sz_put, hsz]) (by simp [ev_put, sz_put, hsz]) rfl) (fun W hW => exec_load1 64 (.tmp 92) rfl (ad := ⟨rb, 0, none⟩) (v := .slice (some ⟨sg, 0, none⟩) sn sc) (by simp [ev_put, sz_put, hsz]) Tryd.underlying64 rfl (hW.1)) ?_
    refine pl_pure (.int .i64 k) rfl (wanted_of (b := false) rfl rfl (by simp [sz_put, hsz]) (by simp [ev_put, sz_put, hsz]) rfl) (fun W => exec_move (.tmp 2) rfl (by simp [ev_put, sz_put, hsz, e2])) ?_
    refine pl_pure (.pointer (some ⟨sg, k, none⟩)) rfl (wanted_of (b := false) rfl rfl (by simp [sz_put, hsz]) (by simp [ev_put, sz_put, hsz]) rfl) (fun W => exec_index0 64 (.tmp 93) (.tmp 94) rfl Tryd.underlying64 (n := sn) (c := sc) (k := .i64) (j := k) (by simp [ev_put, sz_put, hsz]) (by simp [ev_put, sz_put, hsz]) (hkl) (by kernel_rfl)) ?_
    refine pl_held (vk) rfl (wanted_of (b := false) rfl rfl (by simp [sz_put, hsz]) (by simp [ev_put, sz_put, hsz]) rfl) (fun W hW => exec_load1 33 (.tmp 95) rfl (ad := ⟨sg, k, none⟩) (v := vk) (by simp [ev_put, sz_put, hsz]) Tryd.underlying33 rfl (hW.2.1)) ?_
    refine pl_held (.string (bs sk)) rfl (wanted_of (b := false) rfl rfl (by simp [sz_put, hsz]) (by simp [ev_put, sz_put, hsz]) rfl) (fun W hW => exec_conv 33 9 (.tmp 96) rfl (by simp [ev_put, sz_put, hsz]) (run_str Tryd.prog W 33 5 9 Tryd.underlying33 Tryd.underlying5 Tryd.underlying9 vk sk (hW.2.2.2))) ?_
    refine pl_pure (.bool false) rfl (wanted_of (b := false) rfl rfl (by simp [sz_put, hsz]) (by simp [ev_put, sz_put, hsz]) rfl) (fun W => (exec_neqS 9 9 (.tmp 89) (.tmp 97) rfl (m := (bs sk)) (n := (bs sk)) (by simp [ev_put, sz_put, hsz]) (by simp [ev_put, sz_put, hsz])).trans (by rw [show (((bs sk)).toList != ((bs sk)).toList) = false from by simp])) ?_
    refine pl_pure (.bool false) rfl (wanted_none rfl) (fun W => exec_pick (.tmp 87) (.const (.bool true)) (.tmp 98) rfl (b := false) (by simp [ev_put, sz_put, hsz]) (by simp [ev_put, sz_put, hsz, ev_const])) ?_
    refine pl_done ?_
    rw [← hfr]
    simp only [Act.put, List.setIfInBounds_toArray, List.set_cons_zero, List.set_cons_succ]
    clear hfr hsz e1 e2 e9 e10
    cases ho : D.off
    · have ee1 : e1 = .nilIface := by rw [← HE1.out, ho, HH.out]; rfl
      have bv1 : BytesAt w1 v1 (D.seen k) := by have := HV1.out; rwa [if_pos ⟨ho, HH.out⟩] at this
      rw [show R.off = false by rw [HREL.out.off, ho]] at k4
      have hsl : k < R.safe.length := by rw [← HSN.out]; exact hkl
      have hs := rseen_c B P w2.drew.drew.drew rb R (RefIn.upd ⟨_, _, _, _, _, HRR.out⟩ (Upd.refl (fun _ => False) w2.drew).drew.drew (fun _ _ h => h)) k hsl
      rw [HREL.out.seen k hsl] at hs
      obtain ⟨se, hse⟩ : ∃ se, se = D.seen k := ⟨_, rfl⟩
      rw [← hse] at bv1 hs
      have hb1 : BytesR w2.drew.drew.drew v1 se := by
        have hu2 : Upd (fun _ => False) w1 w2 := HU2.out
        exact bv1.r.upd hu2.drew.drew.drew (fun _ _ h => h)
      have HB1 := Lib.hid hb1
      subst ee1
      clear ho HV1 HE1 bv1 hb1 hse hsl
      go_wp2_with fail
      refine wp_region_pl (by kernel_rfl) (fun W => W = w2.drew.drew.drew) 12 [(0, 0), (1, 0), (2, 0), (3, 0), (4, 1), (5, 0), (6, 0), (7, 2), (8, 1), (9, 0), (10, 0), (11, 0)] (by kernel_rfl) (by kernel_rfl) (fun _ _ _ _ _ h => h) (rfl) ?_
      generalize hfr : (Act.mk _ _) = a0
      have hsz : a0.tmps.size = 123 := by rw [← hfr]; rfl
      have e1 : a0.eval (.tmp 1) = .pointer (some ⟨rb, 0, none⟩) := by rw [← hfr]; rfl
      have e2 : a0.eval (.tmp 2) = .int .i64 k := by rw [← hfr]; rfl
      have e7 : a0.eval (.tmp 7) = v1 := by rw [← hfr]; rfl
      have e8 : a0.eval (.tmp 8) = .nilIface := by rw [← hfr]; rfl
      refine pl_pure (.nilIface) rfl (wanted_none rfl) (fun W => exec_move (.tmp 8) rfl (by simp [ev_put, sz_put, hsz, e8])) ?_
      refine pl_pure (.bool true) rfl (wanted_none rfl) (fun W => exec_bin .eql 25 25 (.tmp 112) (.const .nilIface) rfl (xv := .nilIface) (yv := .nilIface) (by simp [ev_put, sz_put, hsz]) rfl (eql_nil W (.tmp 112) (.tmp 112)).1 (eql_nil W (.tmp 112) (.tmp 112)).2) ?_
      refine pl_pure (.bool true) rfl (wanted_none rfl) (fun W => exec_move (.tmp 113) rfl (by simp [ev_put, sz_put, hsz])) ?_
      refine pl_pure (v1) rfl (wanted_of (b := true) rfl rfl (by simp [sz_put, hsz]) (by simp [ev_put, sz_put, hsz]) rfl) (fun W => exec_move (.tmp 7) rfl (by simp [ev_put, sz_put, hsz, e7])) ?_
      refine pl_held (.string (bs se)) rfl (wanted_of (b := true) rfl rfl (by simp [sz_put, hsz]) (by simp [ev_put, sz_put, hsz]) rfl) (fun W hW => exec_conv 33 9 (.tmp 115) rfl (by simp [ev_put, sz_put, hsz]) (run_str Tryd.prog W 33 5 9 Tryd.underlying33 Tryd.underlying5 Tryd.underlying9 v1 se (by rw [hW]; exact HB1.out))) ?_
      refine pl_pure (.pointer (some ⟨rb, 0, none⟩)) rfl (wanted_of (b := true) rfl rfl (by simp [sz_put, hsz]) (by simp [ev_put, sz_put, hsz]) rfl) (fun W => exec_move (.tmp 1) rfl (by simp [ev_put, sz_put, hsz, e1])) ?_
      refine pl_pure (.int .i64 k) rfl (wanted_of (b := true) rfl rfl (by simp [sz_put, hsz]) (by simp [ev_put, sz_put, hsz]) rfl) (fun W => exec_move (.tmp 2) rfl (by simp [ev_put, sz_put, hsz, e2])) ?_
      refine pl_calls 56 #[.tmp 117, .tmp 118] #[44, 3] rfl (wanted_of (b := true) rfl rfl (by simp [sz_put, hsz]) (by simp [ev_put, sz_put, hsz]) rfl) rfl Tryd.f56 Tryd.func56 (by kernel_rfl) (by kernel_rfl) #[.pointer (some ⟨rb, 0, none⟩), .int .i64 k] (by simp [ev_put, sz_put, hsz]) hs ?_
      rintro r w' ⟨v4, rfl, hsec4, rfl⟩
      have HS4 := Lib.hid hsec4
      clear hsec4
      refine ⟨_, rfl, rfl, ?_⟩
      refine pl_held (.string (bs se)) rfl (wanted_of (b := true) rfl rfl (by simp [sz_put, hsz]) (by simp [ev_put, sz_put, hsz]) rfl) (fun W hW => exec_conv 33 9 (.tmp 119) rfl (by simp [ev_put, sz_put, hsz]) (run_str Tryd.prog W 33 5 9 Tryd.underlying33 Tryd.underlying5 Tryd.underlying9 v4 se (by rw [hW]; exact HS4.out.r.r))) ?_
      refine pl_pure (.bool true) rfl (wanted_of (b := true) rfl rfl (by simp [sz_put, hsz]) (by simp [ev_put, sz_put, hsz]) rfl) (fun W => (exec_eqlS 9 9 (.tmp 116) (.tmp 120) rfl (m := (bs se)) (n := (bs se)) (by simp [ev_put, sz_put, hsz]) (by simp [ev_put, sz_put, hsz])).trans (by rw [show (((bs se)).toList == ((bs se)).toList) = true from by simp])) ?_
      refine pl_pure (.bool true) rfl (wanted_none rfl) (fun W => exec_pick (.tmp 114) (.tmp 121) (.const (.bool false)) rfl (b := true) (by simp [ev_put, sz_put, hsz]) (by simp [ev_put, sz_put, hsz, ev_const])) ?_
      refine pl_pure (.bool true) rfl (wanted_none rfl) (fun W => exec_assign (.tmp 122) rfl (by simp [ev_put, sz_put, hsz])) ?_
      refine pl_done ?_
      rw [← hfr]
      simp only [Act.put, List.setIfInBounds_toArray, List.set_cons_zero, List.set_cons_succ]
      clear hfr hsz e1 e2 e7 e8
      go_wp2_with fail
      go_ret
      exact ⟨rfl, HUD.out.drew.drew⟩
    · have ev1 : v1 = .slice none 0 0 := by have := HV1.out; rwa [if_neg (by rw [ho]; simp)] at this
      have ee1 : e1 = ev ea (some 1) := by rw [← HE1.out, ho]; rfl
      rw [show R.off = true by rw [HREL.out.off, ho]] at k4
      have n1 := num_c ea B w2.drew.drew (HED.out.upd (Upd.refl (fun _ => False) w2.drew).drew (fun _ h => h.elim)) (some 1) (fun g h => by injection h with h; omega)
      subst ev1
      subst ee1
      clear ho HV1 HE1
      go_wp2_with fail
      refine n1.mono ?_
      rintro r w4 ⟨rfl, hu4⟩
      have HU4 := Lib.hid (HUD.out.drew.then hu4 (fun _ _ h => h))
      rw [show numOf (some 1) = 16 from rfl]
      clear n1 hu4
      go_wp2_with fail
      go_ret
      exact ⟨rfl, HU4.out⟩
end Go.Proofs.YtlkmpjanchhahaaDoor
