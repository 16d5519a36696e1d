/- cartagelaw04.DiskPlays answers true. -/
import Derived.Test.YtlkmpjanchhahaaDoorPlay0
namespace Go.Proofs.YtlkmpjanchhahaaDoor
open Go Go.RowKit
set_option linter.unusedSimpArgs false
set_option linter.unusedVariables false

theorem write_lt (D : DM) (i : Int) (l : List UInt8) : ∀ g, (D.write i l).1 = some g → g < 22 := by
  intro g h
  unfold DM.write at h
  split at h
  · injection h with h; omega
  · split at h
    · injection h with h; omega
    · split at h
      · injection h with h; omega
      · split at h
        · injection h with h; omega
        · cases h
theorem sync_lt (D : DM) : ∀ g, D.sync.1 = some g → g < 22 := by
  intro g h
  unfold DM.sync at h
  split at h
  · injection h with h; omega
  · split at h
    · injection h with h; omega
    · cases h
theorem arm_lt (D : DM) (n : Int) : ∀ g, (D.arm n).1 = some g → g < 22 := by
  intro g h
  unfold DM.arm at h
  split at h
  · injection h with h; omega
  · split at h
    · injection h with h; omega
    · cases h

/-- What the loop keeps: the disk at b and the document's disk at rb are alike, and apart. -/
def PL (B s : Nat) (w : World) (b rb j : Nat) (wr : World) : Prop :=
  ∃ D R O P, DiskIn B O wr b D ∧ RefIn B P wr rb R ∧ Rel D R ∧ (∀ k, O k → s ≤ k ∧ ¬ P k) ∧ (∀ k, P k → s ≤ k) ∧ Upd (fun _ => False) w wr ∧ D.deeds ≤ j ∧ D.pend.length ≤ j
theorem PL.upd {B s : Nat} {w : World} {b rb j : Nat} {wr wr' : World} (h : PL B s w b rb j wr) (hu : Upd (fun _ => False) wr wr') : PL B s w b rb j wr' := by
  obtain ⟨D, R, O, P, h1, h2, h3, h4, h5, h6, h7, h8⟩ := h
  exact ⟨D, R, O, P, h1.upd hu (fun _ _ h => h), h2.upd hu (fun _ _ h => h), h3, h4, h5, h6.then hu (fun _ _ h => h), h7, h8⟩
theorem PL.same {B s : Nat} {w : World} {b rb j : Nat} {wr : World} (h : PL B s w b rb j wr) (ea : Nat → Addr) (hE : Errs ea B w) (i : Int) :
    Calls Tryd.prog 28 #[.pointer (some ⟨b, 0, none⟩), .pointer (some ⟨rb, 0, none⟩), .int .i64 i] wr fun r w' => r = .returned (.bool true) ∧ Upd (fun _ => False) wr w' := by
  obtain ⟨D, R, O, P, h1, h2, h3, h4, h5, h6, h7, h8⟩ := h
  exact same_c ea B O P wr b rb D R (hE.upd h6 (fun _ h => h.elim)) h1 h2 h3 i

set_option maxRecDepth 100000 in
set_option maxHeartbeats 1000000 in
theorem plays_short (ea : Nat → Addr) (B : Nat) (w : World) (hE : Errs ea B w) (sx : Int) (A : Option Addr) (n c : Nat) (h : 60 < n ∨ (sx < 2 ∨ 4096 < sx)) :
    Calls Tryd.prog 5 #[.int .i64 sx, .slice A n c] w fun r w' => r = .returned (.bool true) ∧ Upd (fun _ => False) w w' := by
  have hal := alive_c ea B w hE
  have HE := Lib.hid hE
  clear hE
  by_cases h60 : 60 < n
  · clear h
    go_enter Tryd.func5, Tryd.ntmps5
    go_wp2_with fail
    refine hal.mono ?_
    rintro r w1 ⟨rfl, hu1⟩
    have HU1 := Lib.hid hu1
    clear hal hu1
    go_wp2_with fail
    go_ret
    exact ⟨rfl, HU1.out⟩
  · have hs := h.resolve_left h60
    have HS := Lib.hid hs
    clear h hs
    go_enter Tryd.func5, Tryd.ntmps5
    go_wp2_with fail
    refine hal.mono ?_
    rintro r w1 ⟨rfl, hu1⟩
    have HU1 := Lib.hid hu1
    clear hal hu1
    go_wp2_with fail
    have hnew := new_bad ea B w1 (HE.out.upd HU1.out (fun _ h => h.elim)) sx HS.out
    refine hnew.mono ?_
    rintro r w2 ⟨rfl, hu2⟩
    have HU2 := Lib.hid (HU1.out.then hu2 (fun _ _ h => h))
    clear hnew hu2
    go_wp2_with fail
    refine (rnew_bad w2 sx HS.out).mono ?_
    rintro r w3 ⟨rfl, rfl⟩
    have hnum := num_c ea B w2 (HE.out.upd HU2.out (fun _ h => h.elim)) (some 0) (fun g h => by injection h with h; omega)
    go_wp2_with fail
    refine hnum.mono ?_
    rintro r w4 ⟨rfl, hu4⟩
    have HU4 := Lib.hid (HU2.out.then hu4 (fun _ _ h => h))
    rw [show numOf (some 0) = 1 from rfl]
    clear hnum hu4
    go_wp2_with fail
    go_ret
    exact ⟨rfl, HU4.out⟩
theorem DiskIn.ob {B : Nat} {O : Nat → Prop} {w : World} {b : Nat} {D : DM} (h : DiskIn B O w b D) : O b := by
  obtain ⟨m, pv, h1, _⟩ := h; exact h1
theorem RefIn.ob {B : Nat} {O : Nat → Prop} {w : World} {b : Nat} {R : RM} (h : RefIn B O w b R) : O b := by
  obtain ⟨sv, av, bv, vs, us, h⟩ := h; exact h.ob
theorem PL.start {B : Nat} {w w2 w3 : World} {b rb : Nat} {P : Nat → Prop} (n : Nat) (hD : DiskIn B (fun k => w2.heap.size ≤ k ∧ k < w3.heap.size) w3 b (DM.new n)) {w4 : World} (hR : RefIn B P w4 rb (RM.new n)) (hP : ∀ k, P k → w3.heap.size ≤ k) (hu2 : Upd (fun _ => False) w w2) (hu3 : Upd (fun _ => False) w2 w3) (hu4 : Upd (fun _ => False) w3 w4) : PL B w.heap.size w b rb 0 w4 := by
  have h2 := hu2.size
  have h3 := hu3.size
  exact ⟨_, _, _, _, hD.upd hu4 (fun _ _ h => h), hR, Rel.new n, fun k hk => ⟨by have := hk.1; omega, fun h => by have := hP k h; have := hk.2; omega⟩, fun k hk => by have := hP k hk; omega,
    (hu2.then hu3 (fun _ _ h => h)).then hu4 (fun _ _ h => h), Int.le_refl _, Nat.le_refl _⟩

set_option maxRecDepth 100000 in
set_option maxHeartbeats 20000000 in
theorem plays_long (ea : Nat → Addr) (B : Nat) (w : World) (hE : Errs ea B w) (m : Nat) (hm2 : 2 ≤ m) (hm4 : m ≤ 4096) (v : Value) (l : List ActM) (hl : ActsR w.heap.size w v l) (hwf : ∀ a ∈ l, a.n ≤ 9223372036854775807) (h60 : l.length ≤ 60) :
    Calls Tryd.prog 5 #[.int .i64 m, v] w fun r w' => r = .returned (.bool true) ∧ Upd (fun _ => False) w w' := by
  have hal := alive_c ea B w hE
  have HE := Lib.hid hE
  have HL := Lib.hid hl
  obtain ⟨A, cv, rfl, _⟩ := hl
  obtain ⟨n, hn⟩ : ∃ n, n = l.length := ⟨_, rfl⟩
  rw [← hn] at HL h60 ⊢
  have HN := Lib.hid hn
  clear hE hn
  go_enter Tryd.func5, Tryd.ntmps5
  go_wp2_with fail
  refine hal.mono ?_
  rintro r w1 ⟨rfl, hu1⟩
  have HU1 := Lib.hid hu1
  clear hal hu1
  go_wp2_with fail
  have hnew := new_ok B w1 m (by omega) (by omega) (Nat.le_trans HE.out.hB HU1.out.size)
  refine hnew.mono ?_
  rintro r w2 ⟨b, rfl, hD, hu2⟩
  have hB2 : B ≤ w2.heap.size := Nat.le_trans HE.out.hB (Nat.le_trans HU1.out.size hu2.size)
  have HD := Lib.hid hD
  have HU2 := Lib.hid hu2
  have HB2 := Lib.hid hB2
  clear hnew hD hu2 hB2
  go_wp2_with fail
  have hrnew := rnew_ok B w2 m hm2 hm4 HB2.out
  refine hrnew.mono ?_
  rintro r w3 ⟨rb, P0, rfl, hR, hP0, hu3⟩
  have hpl0 : PL B w.heap.size w b rb 0 w3 := PL.start m HD.out hR hP0 HU1.out HU2.out hu3
  have HPL0 := Lib.hid hpl0
  clear hrnew hR hP0 hu3 hpl0
  go_wp2_with fail
  go_loopg [5, 42] n (fun k pb p wr => ∃ (j bd : Nat), p = .int .i64 j ∧ pb = .pointer (some ⟨bd, 0, none⟩) ∧ j + k = n ∧ PL B w.heap.size w bd rb j wr)
  case atStart => exact ⟨0, b, rfl, rfl, by omega, HPL0.out⟩
  case round =>
    clear HD HPL0
    obtain ⟨j, bd, rfl, rfl, hj, hpl⟩ := hrel
    by_cases hlt : j < n
    · have hjl : j < l.length := by rw [← HN.out]; exact hlt
      have hU0 : Upd (fun _ => False) w wr := by obtain ⟨D, R, O, P, h1, h2, h3, h4, h5, h6, h7, h8⟩ := hpl; exact h6
      have hacts : ActsR w.heap.size wr (.slice A l.length cv) l := by
        have := HL.out.upd hU0
        rw [HN.out] at this
        exact this
      obtain ⟨A0, c0, e0, h0⟩ := hacts
      injection e0 with e1 e2 e3
      subst e1
      obtain ⟨ab, ao, rfl, hrow⟩ := h0 (by omega)
      obtain ⟨bv, kv', hr, hb, hkb, hbw, hbn, hkw⟩ := hrow j hjl
      have hnm := hwf l[j] (List.getElem_mem hjl)
      obtain ⟨act, hact⟩ : ∃ act, act = l[j] := ⟨_, rfl⟩
      rw [← hact] at hr hb hkb hbw hkw hnm
      have HNM := Lib.hid hnm
      clear hnm
      have HB := Lib.hid hb
      have HK := Lib.hid hkb
      obtain ⟨ba, bc, rfl, _⟩ := hb
      obtain ⟨ka, kc, rfl, _⟩ := hkb
      have HR := Lib.hid hr
      have HBW := Lib.hid hbw
      have HBN := Lib.hid hbn
      have HKW := Lib.hid hkw
      obtain ⟨D, R, O, P, q1, q2, q3, q4, q5, q6, q7, q8⟩ := hpl
      have HU0 := Lib.hid hU0
      clear hr hbw hkw h0 hrow hact e2 e3 hbn hU0
      obtain ⟨nb, hnb⟩ : ∃ nb, nb = wr.heap.size := ⟨_, rfl⟩
      have hblk : Blk (wr.alloc (.cells #[.int .i64 act.kind, .int .i64 act.n, .slice ba act.bytes.length bc, .slice ka act.keep.length kc] 39)) nb 39 #[.int .i64 act.kind, .int .i64 act.n, .slice ba act.bytes.length bc, .slice ka act.keep.length kc] := by rw [hnb]; exact Blk.new _ _ _
      have hu01 : Upd (fun _ => False) wr (wr.alloc (.cells #[.int .i64 act.kind, .int .i64 act.n, .slice ba act.bytes.length bc, .slice ka act.keep.length kc] 39)) := (Upd.refl _ _).alloc _
      have HD1 := Lib.hid (q1.upd hu01 (fun _ _ h => h))
      have HR1 := Lib.hid (q2.upd hu01 (fun _ _ h => h))
      have HREL := Lib.hid q3
      have HO := Lib.hid (show ∀ k, O k → w.heap.size ≤ k ∧ ¬ P k ∧ k < nb from fun k hk => ⟨(q4 k hk).1, (q4 k hk).2, by rw [hnb]; exact q1.lt k hk⟩)
      have HP := Lib.hid (show ∀ k, P k → w.heap.size ≤ k ∧ k < nb from fun k hk => ⟨q5 k hk, by rw [hnb]; exact q2.lt k hk⟩)
      have HUW := Lib.hid (q6.then hu01 (fun _ _ h => h))
      have HDJ := Lib.hid (show D.deeds ≤ j ∧ D.pend.length ≤ j from ⟨q7, q8⟩)
      have hb1 := HB.out.upd hu01 (fun _ _ h => h)
      have hk1 := HK.out.upd hu01 (fun _ _ h => h)
      have hszA : (wr.alloc (.cells #[.int .i64 act.kind, .int .i64 act.n, .slice ba act.bytes.length bc, .slice ka act.keep.length kc] 39)).heap.size = nb + 1 := by rw [hnb]; simp
      have hnbw : w.heap.size ≤ nb := by rw [hnb]; exact HU0.out.size
      have HBLK := Lib.hid hblk
      have HB1 := Lib.hid hb1
      have HK1 := Lib.hid hk1
      have HSZA := Lib.hid hszA
      have HNB := Lib.hid hnb
      clear hblk hu01 hb1 hk1 hszA hnb HB HK q1 q2 q3 q4 q5 q6 q7 q8
      go_wp2_with (first
        | (refine wpl_load rfl 39 _ rfl ab (ao + j * 4) rfl _ _ HR.out Tryd.underlying39 rfl (by kernel_rfl) ?_)
        | (refine wpl_store_new rfl 39 _ _ rfl wr [.int .i64 0, .int .i64 0, .slice none 0 0, .slice none 0 0] 39 rfl rfl _ rfl rfl (by kernel_rfl) (by simp [Value.oneCell']) ?_)
        | fail)
      · go_ret
        exact ⟨rfl, HUW.out⟩
      ·
        rw [← HNB.out]
        generalize (wr.alloc (.cells #[.int .i64 act.kind, .int .i64 act.n, .slice ba act.bytes.length bc, .slice ka act.keep.length kc] 39)) = W0 at HBLK HD1 HR1 HUW HB1 HK1 HSZA ⊢
        have hlen' : act.bytes.length ≤ 200 := by have : (act.bytes.length : Int) ≤ 200 := by assumption
                                                  omega
        have hbc := bytes_c W0 _ act.bytes HB1.out (fun m c e => HBN.out m c e) (by omega)
        refine hbc.mono ?_
        rintro r w4 ⟨u, rfl, hmk, hu4⟩
        have c1 : w4.cell? ⟨nb, 1, none⟩ = some (.int .i64 act.n) := (HBLK.out.upd hu4 (fun h => h)).cell 1
        have c2 : w4.cell? ⟨nb, 2, none⟩ = some (.slice ba act.bytes.length bc) := (HBLK.out.upd hu4 (fun h => h)).cell 2
        have HMK := Lib.hid hmk
        have HU4 := Lib.hid hu4
        clear hbc hmk hu4
        go_wp2_with fail
        have hu4d : Upd (fun _ => False) W0 w4.drew := HU4.out.drew
        have hED := HE.out.upd (HUW.out.then hu4d (fun _ _ h => h)) (fun _ h => h.elim)
        have hDD := HD1.out.upd hu4d (fun _ _ h => h)
        have hRR := HR1.out.upd hu4d (fun _ _ h => h)
        have hbD := HB1.out.upd hu4d (fun _ _ h => h)
        have hoB := hDD.ob
        have hpB := hRR.ob
        have hmd := HMK.out.upd (Upd.refl (fun _ => False) w4).drew (fun _ h => h.elim)
        have hub : ∀ k, u.ownBlock = some k → W0.heap.size ≤ k := fun k hk => by
          obtain ⟨g, c, hg, rfl, _⟩ := hmd
          have : g = k := by simpa [Value.ownBlock] using hk
          omega
        have hw := write_c ea B O w4.drew bd D hDD hED act.n u act.bytes hmd.r (fun _ e => by have := hub bd e; have := (HO.out bd hoB).2.2; have := HSZA.out; omega) (by have := HDJ.out.1; omega) (by have := HDJ.out.2; omega)
        have hrel := HREL.out.write act.n act.bytes
        have hlt22 := write_lt D act.n act.bytes
        have hle := D.write_le act.n act.bytes
        obtain ⟨cd, D', hDW⟩ : ∃ c D', D.write act.n act.bytes = (c, D') := ⟨_, _, rfl⟩
        obtain ⟨cr, R', hRW⟩ : ∃ c R', R.write act.n act.bytes = (c, R') := ⟨_, _, rfl⟩
        rw [hDW] at hw hrel hlt22 hle
        rw [hRW] at hrel
        refine wp_region_pl (by kernel_rfl) (fun W => W.cell? ⟨nb, 1, none⟩ = some (.int .i64 act.n) ∧ W.cell? ⟨nb, 2, none⟩ = some (.slice ba act.bytes.length bc)) 20 [(0, 0), (1, 0), (2, 1), (3, 0), (6, 0), (7, 0), (8, 1), (9, 0), (10, 1), (4, 2), (5, 2), (11, 2), (12, 0), (13, 0), (14, 0), (15, 0), (16, 1), (17, 2), (18, 0), (19, 0)] (by kernel_rfl) (by kernel_rfl) (fun _ _ _ _ _ h => h) (⟨c1, c2⟩) ?_
        generalize hfr : (Act.mk _ _) = a0
        have hsz : a0.tmps.size = 127 := by rw [← hfr]; rfl
        have e5 : a0.eval (.tmp 5) = .pointer (some ⟨bd, 0, none⟩) := by rw [← hfr]; rfl
        have e7 : a0.eval (.tmp 7) = .pointer (some ⟨rb, 0, none⟩) := by rw [← hfr]; rfl
        have e9 : a0.eval (.tmp 9) = .pointer (some ⟨nb, 0, none⟩) := by rw [← hfr]; rfl
        have e11 : a0.eval (.tmp 11) = u := by rw [← hfr]; rfl
        refine pl_pure (.pointer (some ⟨bd, 0, none⟩)) rfl (wanted_none rfl) (fun W => exec_move (.tmp 5) rfl (by simp [ev_put, sz_put, hsz, e5])) ?_
        refine pl_pure (.pointer (some ⟨nb, 1, none⟩)) rfl (wanted_none rfl) (fun W => exec_field 39 (.tmp 9) 1 1 3 rfl (b := nb) (q := 0) (by simp [ev_put, sz_put, hsz, e9]) Tryd.underlying39 rfl (by kernel_rfl)) ?_
        refine pl_held (.int .i64 act.n) rfl (wanted_none rfl) (fun W hW => exec_load1 3 (.tmp 67) rfl (ad := ⟨nb, 1, none⟩) (v := .int .i64 act.n) (by simp [ev_put, sz_put, hsz]) Tryd.underlying3 rfl (hW.1)) ?_
        refine pl_pure (u) rfl (wanted_none rfl) (fun W => exec_move (.tmp 11) rfl (by simp [ev_put, sz_put, hsz, e11])) ?_
        refine pl_pure (.pointer (some ⟨rb, 0, none⟩)) rfl (wanted_none rfl) (fun W => exec_move (.tmp 7) rfl (by simp [ev_put, sz_put, hsz, e7])) ?_
        refine pl_pure (.pointer (some ⟨nb, 1, none⟩)) rfl (wanted_none rfl) (fun W => exec_field 39 (.tmp 9) 1 1 3 rfl (b := nb) (q := 0) (by simp [ev_put, sz_put, hsz, e9]) Tryd.underlying39 rfl (by kernel_rfl)) ?_
        refine pl_held (.int .i64 act.n) rfl (wanted_none rfl) (fun W hW => exec_load1 3 (.tmp 73) rfl (ad := ⟨nb, 1, none⟩) (v := .int .i64 act.n) (by simp [ev_put, sz_put, hsz]) Tryd.underlying3 rfl (hW.1)) ?_
        refine pl_pure (.pointer (some ⟨nb, 2, none⟩)) rfl (wanted_none rfl) (fun W => exec_field 39 (.tmp 9) 2 2 33 rfl (b := nb) (q := 0) (by simp [ev_put, sz_put, hsz, e9]) Tryd.underlying39 rfl (by kernel_rfl)) ?_
        refine pl_held (.slice ba act.bytes.length bc) rfl (wanted_none rfl) (fun W hW => exec_load1 33 (.tmp 75) rfl (ad := ⟨nb, 2, none⟩) (v := .slice ba act.bytes.length bc) (by simp [ev_put, sz_put, hsz]) Tryd.underlying33 rfl (hW.2)) ?_
        refine pl_calls 13 #[.tmp 66, .tmp 68, .tmp 69] #[23, 3, 33] rfl (wanted_none rfl) rfl Tryd.f13 Tryd.func13 (by kernel_rfl) (by kernel_rfl) #[.pointer (some ⟨bd, 0, none⟩), .int .i64 act.n, u] (by simp [ev_put, sz_put, hsz]) hw ?_
        rintro r w5 ⟨rfl, ⟨O', hD5, hO'⟩, hu5⟩
        have hn5 := fun h => Nat.lt_irrefl nb (HO.out nb h).2.2
        have d1 : w5.cell? ⟨nb, 1, none⟩ = some (.int .i64 act.n) := hu5.cell c1 hn5
        have d2 : w5.cell? ⟨nb, 2, none⟩ = some (.slice ba act.bytes.length bc) := hu5.cell c2 hn5
        refine ⟨_, rfl, ⟨d1, d2⟩, ?_⟩
        refine pl_calls 21 #[.tmp 70] #[25] rfl (wanted_none rfl) rfl Tryd.f21 Tryd.func21 (by kernel_rfl) (by kernel_rfl) #[ev ea cd] (by simp [ev_put, sz_put, hsz]) (num_c ea B w5 (hED.upd hu5 (fun k hk => hDD.ge k hk)) cd hlt22) ?_
        rintro r w6 ⟨rfl, hu6⟩
        have g1 := hu6.cell d1 (fun h => h)
        have g2 := hu6.cell d2 (fun h => h)
        refine ⟨_, rfl, ⟨g1, g2⟩, ?_⟩
        have hR6 : RefIn B P w6 rb R := (hRR.upd hu5 (fun k hk h => (HO.out k h).2.1 hk)).upd hu6 (fun _ _ h => h)
        have hb6 : BytesR w6 (.slice ba act.bytes.length bc) act.bytes := by
          obtain ⟨a', c', e, hc⟩ := hbD
          injection e with e1 e2 e3
          subst e1; subst e3
          refine ⟨_, _, rfl, fun hp => ?_⟩
          obtain ⟨ad, ead, hcc⟩ := hc hp
          subst ead
          refine ⟨_, rfl, fun q u hq => hu6.cell (hu5.cell (hcc q u hq) (fun h => ?_)) (fun h => h)⟩
          have eb : (ad.add q).block = ad.block := by unfold Addr.add; split <;> rfl
          rw [eb] at h
          have := HBW.out hp ad.block rfl
          have := (HO.out _ h).1
          omega
        have hrw := rwrite_c B P w6 rb R hR6 (Nat.le_trans hED.hB (Nat.le_trans hu5.size hu6.size)) act.n (.slice ba act.bytes.length bc) act.bytes hb6 (fun hp e => by have := HBW.out hp rb e; have := (HP.out rb hpB).1; omega) (by rw [HREL.out.deeds]; have := HDJ.out.1; omega) (by rw [HREL.out.pend]; have := HDJ.out.2; omega)
        rw [hRW] at hrw
        refine pl_calls 23 #[.tmp 72, .tmp 74, .tmp 76] #[44, 3, 33] rfl (wanted_none rfl) rfl Tryd.f23 Tryd.func23 (by kernel_rfl) (by kernel_rfl) #[.pointer (some ⟨rb, 0, none⟩), .int .i64 act.n, .slice ba act.bytes.length bc] (by simp [ev_put, sz_put, hsz]) hrw ?_
        rintro r w7 ⟨rfl, ⟨P', hR7, hP'⟩, hu7⟩
        have hn7 := fun h => Nat.lt_irrefl nb (HP.out nb h).2
        have i1 : w7.cell? ⟨nb, 1, none⟩ = some (.int .i64 act.n) := hu7.cell g1 hn7
        have i2 : w7.cell? ⟨nb, 2, none⟩ = some (.slice ba act.bytes.length bc) := hu7.cell g2 hn7
        refine ⟨_, rfl, ⟨i1, i2⟩, ?_⟩
        refine pl_pure (.bool true) rfl (wanted_none rfl) (fun W => (exec_eqlI 3 3 (.tmp 71) (.tmp 77) rfl (k := .i64) (m := numOf cd) (n := cr) (by simp [ev_put, sz_put, hsz]) (by simp [ev_put, sz_put, hsz])).trans (by rw [show ((numOf cd : Int) == cr) = true from by rw [hrel.1]; simp])) ?_
        refine pl_pure (.bool true) rfl (wanted_none rfl) (fun W => exec_move (.tmp 78) rfl (by simp [ev_put, sz_put, hsz])) ?_
        refine pl_pure (u) rfl (wanted_of (b := true) rfl rfl (by simp [sz_put, hsz]) (by simp [ev_put, sz_put, hsz]) rfl) (fun W => exec_move (.tmp 11) rfl (by simp [ev_put, sz_put, hsz, e11])) ?_
        refine pl_pure (.pointer (some ⟨nb, 2, none⟩)) rfl (wanted_of (b := true) rfl rfl (by simp [sz_put, hsz]) (by simp [ev_put, sz_put, hsz]) rfl) (fun W => exec_field 39 (.tmp 9) 2 2 33 rfl (b := nb) (q := 0) (by simp [ev_put, sz_put, hsz, e9]) Tryd.underlying39 rfl (by kernel_rfl)) ?_
        refine pl_held (.slice ba act.bytes.length bc) rfl (wanted_of (b := true) rfl rfl (by simp [sz_put, hsz]) (by simp [ev_put, sz_put, hsz]) rfl) (fun W hW => exec_load1 33 (.tmp 81) rfl (ad := ⟨nb, 2, none⟩) (v := .slice ba act.bytes.length bc) (by simp [ev_put, sz_put, hsz]) Tryd.underlying33 rfl (hW.2)) ?_
        have hm7 : Marked W0.heap.size w7 u act.bytes := ((hmd.upd hu5 (fun k hk => by have := (HO.out k hk).2.2; have := HSZA.out; omega)).upd hu6 (fun _ h => h.elim)).upd hu7 (fun k hk => by have := (HP.out k hk).2; have := HSZA.out; omega)
        have hb7 : BytesR w7 (.slice ba act.bytes.length bc) act.bytes := by
          obtain ⟨a', c', e, hc⟩ := hb6
          injection e with e1 e2 e3
          subst e1; subst e3
          refine ⟨_, _, rfl, fun hp => ?_⟩
          obtain ⟨ad, ead, hcc⟩ := hc hp
          subst ead
          refine ⟨_, rfl, fun q u hq => hu7.cell (hcc q u hq) (fun h => ?_)⟩
          have eb : (ad.add q).block = ad.block := by unfold Addr.add; split <;> rfl
          rw [eb] at h
          have := HBW.out hp ad.block rfl
          have := (HP.out _ h).1
          omega
        have hk := kept_c W0.heap.size w7 u (.slice ba act.bytes.length bc) act.bytes hm7 hb7 (by omega)
        refine pl_calls 24 #[.tmp 80, .tmp 82] #[33, 33] rfl (wanted_of (b := true) rfl rfl (by simp [sz_put, hsz]) (by simp [ev_put, sz_put, hsz]) rfl) rfl Tryd.f24 Tryd.func24 (by kernel_rfl) (by kernel_rfl) #[u, .slice ba act.bytes.length bc] (by simp [ev_put, sz_put, hsz]) hk ?_
        rintro r w8 ⟨rfl, rfl⟩
        refine ⟨_, rfl, ⟨i1, i2⟩, ?_⟩
        refine pl_pure (.bool true) rfl (wanted_none rfl) (fun W => exec_pick (.tmp 79) (.tmp 83) (.const (.bool false)) rfl (b := true) (by simp [ev_put, sz_put, hsz]) (by simp [ev_put, sz_put, hsz, ev_const])) ?_
        refine pl_pure (.bool true) rfl (wanted_none rfl) (fun W => exec_assign (.tmp 84) rfl (by simp [ev_put, sz_put, hsz])) ?_
        refine pl_done ?_
        rw [← hfr]
        simp only [Act.put, List.setIfInBounds_toArray, List.set_cons_zero, List.set_cons_succ]
        have hpl : PL B w.heap.size w bd rb (j + 1) w7.drew := by
          have z4 : W0.heap.size ≤ w4.drew.heap.size := hu4d.size
          have z5 := hu5.size
          have z6 := hu6.size
          have zA := HSZA.out
          refine ⟨D', R', O', P', (hD5.upd hu6 (fun _ _ h => h)).upd hu7.drew (fun k hk h => ?_), hR7.upd (Upd.refl (fun _ => False) w7).drew (fun _ _ h => h), hrel.2, fun k hk => ⟨?_, fun h => ?_⟩, fun k hk => ?_, ?_, ?_, ?_⟩
          · have := HP.out k h
            rcases hO' k hk with hk | hk
            · exact (HO.out k hk).2.1 h
            · omega
          · rcases hO' k hk with hk | hk
            · exact (HO.out k hk).1
            · omega
          · have := hD5.lt k hk
            rcases hP' k h with h | h
            · have := HP.out k h
              rcases hO' k hk with hk | hk
              · exact (HO.out k hk).2.1 h
              · omega
            · omega
          · rcases hP' k hk with hk | hk
            · exact (HP.out k hk).1
            · omega
          · exact ((((HUW.out.then hu4d (fun _ _ h => h)).then hu5 (fun k hk h => by have := (HO.out k h).1; omega)).then hu6 (fun _ _ h => h)).then hu7 (fun k hk h => by have := (HP.out k h).1; omega)).drew
          · have := HDJ.out.1; have h1 : D'.deeds ≤ D.deeds + 1 := hle.1; show D'.deeds ≤ _; omega
          · have := HDJ.out.2; have h1 : D'.pend.length ≤ D.pend.length + 1 := hle.2; show D'.pend.length ≤ _; omega
        have HPN := Lib.hid hpl
        clear hpl hfr hsz e5 e7 e9 e11
        have hlast : Calls Tryd.prog 28 #[.pointer (some ⟨bd, 0, none⟩), .pointer (some ⟨rb, 0, none⟩), .int .i64 act.n] (w7.drew) fun r w' => r = .returned (.bool true) ∧ Upd (fun _ => False) (w7.drew) w' := HPN.out.same ea HE.out act.n
        clear hu4d hED hDD hRR hbD hoB hpB hmd hub hw hrel hlt22 hle hDW hRW hD5 hO' hu5 d1 d2 hu6 g1 g2 hR6 hb6 hrw hR7 hP' hu7 hm7 hb7 hk i2 c1 c2
        go_wp2_with fail
        refine hlast.mono ?_
        rintro r wz ⟨rfl, huz⟩
        have HPZ := Lib.hid (HPN.out.upd huz)
        clear hlast huz
        go_wp2_with fail
        go_roundg (n - (j + 1))
        case measure => omega
        case rel => exact ⟨j + 1, bd, by go_num, rfl, by omega, HPZ.out⟩
      · rw [← HNB.out]
        generalize (wr.alloc (.cells #[.int .i64 act.kind, .int .i64 act.n, .slice ba act.bytes.length bc, .slice ka act.keep.length kc] 39)) = W0 at HBLK HD1 HR1 HUW HB1 HK1 HSZA ⊢
        have hlen' : act.bytes.length ≤ 200 := by have : (act.bytes.length : Int) ≤ 200 := by assumption
                                                  omega
        have hED := HE.out.upd HUW.out (fun _ h => h.elim)
        have hs := sync_c ea B O W0 bd D HD1.out hED (by have := HDJ.out.1; omega)
        have hrel := HREL.out.sync HR1.out.ok'
        have hlt22 := sync_lt D
        have hle := D.sync_le
        obtain ⟨cd, D', hDW⟩ : ∃ c D', D.sync = (c, D') := ⟨_, _, rfl⟩
        obtain ⟨cr, R', hRW⟩ : ∃ c R', R.sync = (c, R') := ⟨_, _, rfl⟩
        rw [hDW] at hs hrel hlt22 hle
        rw [hRW] at hrel
        have HED := Lib.hid hED
        have HRL := Lib.hid hrel
        have HLT := Lib.hid hlt22
        have HLE := Lib.hid hle
        have HRW := Lib.hid hRW
        clear hED hrel hlt22 hle hDW hRW
        refine hs.mono ?_
        rintro r w5 ⟨rfl, hD5, hu5⟩
        have HD5 := Lib.hid hD5
        have HU5 := Lib.hid hu5
        clear hs hD5 hu5
        go_wp2_with fail
        refine (num_c ea B w5 (HED.out.upd HU5.out (fun k hk => HD1.out.ge k hk)) cd HLT.out).mono ?_
        rintro r w6 ⟨rfl, hu6⟩
        have HU6 := Lib.hid hu6
        clear hu6
        go_wp2_with fail
        have hrs := rsync_c B P w6 rb R ((HR1.out.upd HU5.out (fun k hk h => (HO.out k h).2.1 hk)).upd HU6.out (fun _ _ h => h)) (by rw [HREL.out.deeds]; have := HDJ.out.1; omega)
        rw [HRW.out] at hrs
        refine hrs.mono ?_
        rintro r w7 ⟨rfl, hR7, hu7⟩
        have i1 : w7.cell? ⟨nb, 1, none⟩ = some (.int .i64 act.n) := (((HBLK.out.upd HU5.out (fun h => Nat.lt_irrefl nb (HO.out nb h).2.2)).upd HU6.out (fun h => h)).upd hu7 (fun h => Nat.lt_irrefl nb (HP.out nb h).2)).cell 1
        have hpl : PL B w.heap.size w bd rb (j + 1) w7 := by
          refine ⟨D', R', O, P, (HD5.out.upd HU6.out (fun _ _ h => h)).upd hu7 (fun k hk h => (HO.out k hk).2.1 h), hR7, HRL.out.2, fun k hk => ⟨(HO.out k hk).1, (HO.out k hk).2.1⟩, fun k hk => (HP.out k hk).1, ?_, ?_, ?_⟩
          · exact (((HUW.out.then HU5.out (fun k hk h => by have := (HO.out k h).1; omega)).then HU6.out (fun _ _ h => h)).then hu7 (fun k hk h => by have := (HP.out k h).1; omega))
          · have := HDJ.out.1; have h1 : D'.deeds ≤ D.deeds + 1 := HLE.out.1; show D'.deeds ≤ _; omega
          · have := HDJ.out.2; have h1 : D'.pend.length ≤ D.pend.length + 1 := HLE.out.2; show D'.pend.length ≤ _; omega
        have HPN := Lib.hid hpl
        rw [HRL.out.1]
        have hlast : Calls Tryd.prog 28 #[.pointer (some ⟨bd, 0, none⟩), .pointer (some ⟨rb, 0, none⟩), .int .i64 act.n] (w7) fun r w' => r = .returned (.bool true) ∧ Upd (fun _ => False) (w7) w' := HPN.out.same ea HE.out act.n
        clear hrs hR7 hu7 hpl
        go_wp2_with fail
        refine hlast.mono ?_
        rintro r wz ⟨rfl, huz⟩
        have HPZ := Lib.hid (HPN.out.upd huz)
        clear hlast huz
        go_wp2_with fail
        go_roundg (n - (j + 1))
        case measure => omega
        case rel => exact ⟨j + 1, bd, by go_num, rfl, by omega, HPZ.out⟩
      · rw [← HNB.out]
        generalize (wr.alloc (.cells #[.int .i64 act.kind, .int .i64 act.n, .slice ba act.bytes.length bc, .slice ka act.keep.length kc] 39)) = W0 at HBLK HD1 HR1 HUW HB1 HK1 HSZA ⊢
        have hu0d : Upd (fun _ => False) W0 W0.drew := (Upd.refl _ _).drew
        have hED := HE.out.upd (HUW.out.then hu0d (fun _ _ h => h)) (fun _ h => h.elim)
        have hDD := HD1.out.upd hu0d (fun _ _ h => h)
        have hRR := HR1.out.upd hu0d (fun _ _ h => h)
        have c1 : W0.cell? ⟨nb, 1, none⟩ = some (.int .i64 act.n) := HBLK.out.cell 1
        have hw := arm_c ea B O W0.drew bd D hDD hED act.n HNM.out
        have hrel := HREL.out.arm act.n
        have hlt22 := arm_lt D act.n
        have hle := D.arm_le act.n
        obtain ⟨cd, D', hDW⟩ : ∃ c D', D.arm act.n = (c, D') := ⟨_, _, rfl⟩
        obtain ⟨cr, R', hRW⟩ : ∃ c R', R.arm act.n = (c, R') := ⟨_, _, rfl⟩
        rw [hDW] at hw hrel hlt22 hle
        rw [hRW] at hrel
        have hoB := hDD.ob
        have hpB := hRR.ob
        refine wp_region_pl (by kernel_rfl) (fun W => W.cell? ⟨nb, 1, none⟩ = some (.int .i64 act.n)) 11 [(0, 0), (1, 0), (2, 1), (5, 0), (6, 0), (7, 1), (3, 2), (4, 2), (8, 2), (9, 0), (10, 0)] (by kernel_rfl) (by kernel_rfl) (fun _ _ _ _ _ h => h) (c1) ?_
        generalize hfr : (Act.mk _ _) = a0
        have hsz : a0.tmps.size = 127 := by rw [← hfr]; rfl
        have e5 : a0.eval (.tmp 5) = .pointer (some ⟨bd, 0, none⟩) := by rw [← hfr]; rfl
        have e7 : a0.eval (.tmp 7) = .pointer (some ⟨rb, 0, none⟩) := by rw [← hfr]; rfl
        have e9 : a0.eval (.tmp 9) = .pointer (some ⟨nb, 0, none⟩) := by rw [← hfr]; rfl
        refine pl_pure (.pointer (some ⟨bd, 0, none⟩)) rfl (wanted_none rfl) (fun W => exec_move (.tmp 5) rfl (by simp [ev_put, sz_put, hsz, e5])) ?_
        refine pl_pure (.pointer (some ⟨nb, 1, none⟩)) rfl (wanted_none rfl) (fun W => exec_field 39 (.tmp 9) 1 1 3 rfl (b := nb) (q := 0) (by simp [ev_put, sz_put, hsz, e9]) Tryd.underlying39 rfl (by kernel_rfl)) ?_
        refine pl_held (.int .i64 act.n) rfl (wanted_none rfl) (fun W hW => exec_load1 3 (.tmp 96) rfl (ad := ⟨nb, 1, none⟩) (v := .int .i64 act.n) (by simp [ev_put, sz_put, hsz]) Tryd.underlying3 rfl (hW)) ?_
        refine pl_pure (.pointer (some ⟨rb, 0, none⟩)) rfl (wanted_none rfl) (fun W => exec_move (.tmp 7) rfl (by simp [ev_put, sz_put, hsz, e7])) ?_
        refine pl_pure (.pointer (some ⟨nb, 1, none⟩)) rfl (wanted_none rfl) (fun W => exec_field 39 (.tmp 9) 1 1 3 rfl (b := nb) (q := 0) (by simp [ev_put, sz_put, hsz, e9]) Tryd.underlying39 rfl (by kernel_rfl)) ?_
        refine pl_held (.int .i64 act.n) rfl (wanted_none rfl) (fun W hW => exec_load1 3 (.tmp 101) rfl (ad := ⟨nb, 1, none⟩) (v := .int .i64 act.n) (by simp [ev_put, sz_put, hsz]) Tryd.underlying3 rfl (hW)) ?_
        refine pl_calls 10 #[.tmp 95, .tmp 97] #[23, 3] rfl (wanted_none rfl) rfl Tryd.f10 Tryd.func10 (by kernel_rfl) (by kernel_rfl) #[.pointer (some ⟨bd, 0, none⟩), .int .i64 act.n] (by simp [ev_put, sz_put, hsz]) hw ?_
        rintro r w5 ⟨rfl, hD5, hu5⟩
        have d1 : w5.cell? ⟨nb, 1, none⟩ = some (.int .i64 act.n) := hu5.cell c1 (fun h => by have := (HO.out bd hoB).2.2; simp at h; omega)
        refine ⟨_, rfl, d1, ?_⟩
        refine pl_calls 21 #[.tmp 98] #[25] rfl (wanted_none rfl) rfl Tryd.f21 Tryd.func21 (by kernel_rfl) (by kernel_rfl) #[ev ea cd] (by simp [ev_put, sz_put, hsz]) (num_c ea B w5 (hED.upd hu5 (fun k hk => by subst hk; exact hDD.ge _ hoB)) cd hlt22) ?_
        rintro r w6 ⟨rfl, hu6⟩
        have g1 := hu6.cell d1 (fun h => h)
        refine ⟨_, rfl, g1, ?_⟩
        have hR6 : RefIn B P w6 rb R := (hRR.upd hu5 (fun k hk h => by subst h; exact (HO.out _ hoB).2.1 hk)).upd hu6 (fun _ _ h => h)
        have hrw := rarm_c B P w6 rb R hR6 act.n HNM.out
        rw [hRW] at hrw
        refine pl_calls 26 #[.tmp 100, .tmp 102] #[44, 3] rfl (wanted_none rfl) rfl Tryd.f26 Tryd.func26 (by kernel_rfl) (by kernel_rfl) #[.pointer (some ⟨rb, 0, none⟩), .int .i64 act.n] (by simp [ev_put, sz_put, hsz]) hrw ?_
        rintro r w7 ⟨rfl, hR7, hu7⟩
        have i1 : w7.cell? ⟨nb, 1, none⟩ = some (.int .i64 act.n) := hu7.cell g1 (fun h => by have := (HP.out rb hpB).2; simp at h; omega)
        refine ⟨_, rfl, i1, ?_⟩
        refine pl_pure (.bool true) rfl (wanted_none rfl) (fun W => (exec_eqlI 3 3 (.tmp 99) (.tmp 103) rfl (k := .i64) (m := numOf cd) (n := cr) (by simp [ev_put, sz_put, hsz]) (by simp [ev_put, sz_put, hsz])).trans (by rw [show ((numOf cd : Int) == cr) = true from by rw [hrel.1]; simp])) ?_
        refine pl_pure (.bool true) rfl (wanted_none rfl) (fun W => exec_assign (.tmp 104) rfl (by simp [ev_put, sz_put, hsz])) ?_
        refine pl_done ?_
        rw [← hfr]
        simp only [Act.put, List.setIfInBounds_toArray, List.set_cons_zero, List.set_cons_succ]
        have hpl : PL B w.heap.size w bd rb (j + 1) w7 := by
          refine ⟨D', R', O, P, (hD5.upd hu6 (fun _ _ h => h)).upd hu7 (fun k hk h => by subst h; exact (HO.out _ hk).2.1 hpB), hR7, hrel.2, fun k hk => ⟨(HO.out k hk).1, (HO.out k hk).2.1⟩, fun k hk => (HP.out k hk).1, ?_, ?_, ?_⟩
          · exact ((((HUW.out.then hu0d (fun _ _ h => h)).then hu5 (fun k hk h => by subst h; have := (HO.out _ hoB).1; omega)).then hu6 (fun _ _ h => h)).then hu7 (fun k hk h => by subst h; have := (HP.out _ hpB).1; omega))
          · have := HDJ.out.1; have h1 : D'.deeds = D.deeds := hle.1; show D'.deeds ≤ _; omega
          · have := HDJ.out.2; have h1 : D'.pend = D.pend := hle.2; show D'.pend.length ≤ _; rw [h1]; omega
        have HPN := Lib.hid hpl
        clear hpl hfr hsz e5 e7 e9
        have hlast : Calls Tryd.prog 28 #[.pointer (some ⟨bd, 0, none⟩), .pointer (some ⟨rb, 0, none⟩), .int .i64 act.n] (w7) fun r w' => r = .returned (.bool true) ∧ Upd (fun _ => False) (w7) w' := HPN.out.same ea HE.out act.n
        clear hu0d hED hDD hRR hoB hpB hw hrel hlt22 hle hDW hRW hD5 hu5 d1 hu6 g1 hR6 hrw hR7 hu7 c1
        go_wp2_with fail
        refine hlast.mono ?_
        rintro r wz ⟨rfl, huz⟩
        have HPZ := Lib.hid (HPN.out.upd huz)
        clear hlast huz
        go_wp2_with fail
        go_roundg (n - (j + 1))
        case measure => omega
        case rel => exact ⟨j + 1, bd, by go_num, rfl, by omega, HPZ.out⟩
      · rw [← HNB.out]
        generalize (wr.alloc (.cells #[.int .i64 act.kind, .int .i64 act.n, .slice ba act.bytes.length bc, .slice ka act.keep.length kc] 39)) = W0 at HBLK HD1 HR1 HUW HB1 HK1 HSZA ⊢
        have hu0d : Upd (fun _ => False) W0 W0.drew := (Upd.refl _ _).drew
        have hED := HE.out.upd (HUW.out.then hu0d (fun _ _ h => h)) (fun _ h => h.elim)
        have hDD := HD1.out.upd hu0d (fun _ _ h => h)
        have hRR := HR1.out.upd hu0d (fun _ _ h => h)
        have hkD := HK1.out.upd hu0d (fun _ _ h => h)
        have c1 : W0.cell? ⟨nb, 1, none⟩ = some (.int .i64 act.n) := HBLK.out.cell 1
        have c3 : W0.cell? ⟨nb, 3, none⟩ = some (.slice ka act.keep.length kc) := HBLK.out.cell 3
        have hw := crash_c B O W0.drew bd D hDD (.slice ka act.keep.length kc) act.keep hkD (fun hp k hk h => by have := HKW.out hp k hk; have := (HO.out k h).1; omega)
        have hrel := HREL.out.crash HR1.out.ok' act.keep
        have hdd : (D.crash act.keep).2.deeds = D.deeds ∧ (D.crash act.keep).2.pend = [] := ⟨rfl, rfl⟩
        obtain ⟨cd, D', hDW⟩ : ∃ c D', D.crash act.keep = (c, D') := ⟨_, _, rfl⟩
        obtain ⟨cr, R', hRW⟩ : ∃ c R', R.crash act.keep = (c, R') := ⟨_, _, rfl⟩
        rw [hDW] at hw hrel hdd
        rw [hRW] at hrel
        have hoB := hDD.ob
        have hpB := hRR.ob
        refine wp_region_pl (by kernel_rfl) (fun W => W.cell? ⟨nb, 3, none⟩ = some (.slice ka act.keep.length kc)) 10 [(0, 0), (1, 0), (2, 1), (4, 0), (5, 0), (6, 1), (3, 2), (7, 2), (8, 0), (9, 0)] (by kernel_rfl) (by kernel_rfl) (fun _ _ _ _ _ h => h) (c3) ?_
        generalize hfr : (Act.mk _ _) = a0
        have hsz : a0.tmps.size = 127 := by rw [← hfr]; rfl
        have e5 : a0.eval (.tmp 5) = .pointer (some ⟨bd, 0, none⟩) := by rw [← hfr]; rfl
        have e7 : a0.eval (.tmp 7) = .pointer (some ⟨rb, 0, none⟩) := by rw [← hfr]; rfl
        have e9 : a0.eval (.tmp 9) = .pointer (some ⟨nb, 0, none⟩) := by rw [← hfr]; rfl
        refine pl_pure (.pointer (some ⟨bd, 0, none⟩)) rfl (wanted_none rfl) (fun W => exec_move (.tmp 5) rfl (by simp [ev_put, sz_put, hsz, e5])) ?_
        refine pl_pure (.pointer (some ⟨nb, 3, none⟩)) rfl (wanted_none rfl) (fun W => exec_field 39 (.tmp 9) 3 3 37 rfl (b := nb) (q := 0) (by simp [ev_put, sz_put, hsz, e9]) Tryd.underlying39 rfl (by kernel_rfl)) ?_
        refine pl_held (.slice ka act.keep.length kc) rfl (wanted_none rfl) (fun W hW => exec_load1 37 (.tmp 108) rfl (ad := ⟨nb, 3, none⟩) (v := .slice ka act.keep.length kc) (by simp [ev_put, sz_put, hsz]) Tryd.underlying37 rfl (hW)) ?_
        refine pl_pure (.pointer (some ⟨rb, 0, none⟩)) rfl (wanted_none rfl) (fun W => exec_move (.tmp 7) rfl (by simp [ev_put, sz_put, hsz, e7])) ?_
        refine pl_pure (.pointer (some ⟨nb, 3, none⟩)) rfl (wanted_none rfl) (fun W => exec_field 39 (.tmp 9) 3 3 37 rfl (b := nb) (q := 0) (by simp [ev_put, sz_put, hsz, e9]) Tryd.underlying39 rfl (by kernel_rfl)) ?_
        refine pl_held (.slice ka act.keep.length kc) rfl (wanted_none rfl) (fun W hW => exec_load1 37 (.tmp 112) rfl (ad := ⟨nb, 3, none⟩) (v := .slice ka act.keep.length kc) (by simp [ev_put, sz_put, hsz]) Tryd.underlying37 rfl (hW)) ?_
        refine pl_calls 17 #[.tmp 107, .tmp 109] #[23, 37] rfl (wanted_none rfl) rfl Tryd.f17 Tryd.func17 (by kernel_rfl) (by kernel_rfl) #[.pointer (some ⟨bd, 0, none⟩), .slice ka act.keep.length kc] (by simp [ev_put, sz_put, hsz]) hw ?_
        rintro r w5 ⟨rfl, hD5, hu5⟩
        have d1 : w5.cell? ⟨nb, 1, none⟩ = some (.int .i64 act.n) := hu5.cell c1 (fun h => Nat.lt_irrefl nb (HO.out nb h).2.2)
        have d3 : w5.cell? ⟨nb, 3, none⟩ = some (.slice ka act.keep.length kc) := hu5.cell c3 (fun h => Nat.lt_irrefl nb (HO.out nb h).2.2)
        refine ⟨_, rfl, d3, ?_⟩
        have hk5 : BoolsR w5 (.slice ka act.keep.length kc) act.keep := by
          obtain ⟨a', c', e, hc⟩ := hkD
          injection e with e1 e2 e3
          subst e1; subst e3
          refine ⟨_, _, rfl, fun hp => ?_⟩
          obtain ⟨kb, ko, rfl, hcc⟩ := hc hp
          exact ⟨kb, ko, rfl, fun q hq => hu5.cell (hcc q hq) (fun h => by have := HKW.out hp kb rfl; have := (HO.out kb h).1; omega)⟩
        have hrw := rcrash_c B P w5 rb R (hRR.upd hu5 (fun k hk h => (HO.out k h).2.1 hk)) (.slice ka act.keep.length kc) act.keep hk5 (fun hp k hk h => by have := HKW.out hp k hk; have := (HP.out k h).1; omega)
        rw [hRW] at hrw
        refine pl_calls 27 #[.tmp 111, .tmp 113] #[44, 37] rfl (wanted_none rfl) rfl Tryd.f27 Tryd.func27 (by kernel_rfl) (by kernel_rfl) #[.pointer (some ⟨rb, 0, none⟩), .slice ka act.keep.length kc] (by simp [ev_put, sz_put, hsz]) hrw ?_
        rintro r w7 ⟨rfl, hR7, hu7⟩
        have i1 : w7.cell? ⟨nb, 1, none⟩ = some (.int .i64 act.n) := hu7.cell d1 (fun h => Nat.lt_irrefl nb (HP.out nb h).2)
        have i3 : w7.cell? ⟨nb, 3, none⟩ = some (.slice ka act.keep.length kc) := hu7.cell d3 (fun h => Nat.lt_irrefl nb (HP.out nb h).2)
        refine ⟨_, rfl, i3, ?_⟩
        refine pl_pure (.bool true) rfl (wanted_none rfl) (fun W => (exec_eqlI 3 3 (.tmp 110) (.tmp 114) rfl (k := .i64) (m := cd) (n := cr) (by simp [ev_put, sz_put, hsz]) (by simp [ev_put, sz_put, hsz])).trans (by rw [show ((cd : Int) == cr) = true from by have h : cd = cr := hrel.1; rw [h]; simp])) ?_
        refine pl_pure (.bool true) rfl (wanted_none rfl) (fun W => exec_assign (.tmp 115) rfl (by simp [ev_put, sz_put, hsz])) ?_
        refine pl_done ?_
        rw [← hfr]
        simp only [Act.put, List.setIfInBounds_toArray, List.set_cons_zero, List.set_cons_succ]
        have hpl : PL B w.heap.size w bd rb (j + 1) w7 := by
          refine ⟨D', R', O, P, hD5.upd hu7 (fun k hk h => (HO.out k hk).2.1 h), hR7, hrel.2, fun k hk => ⟨(HO.out k hk).1, (HO.out k hk).2.1⟩, fun k hk => (HP.out k hk).1, ?_, ?_, ?_⟩
          · exact ((HUW.out.then hu0d (fun _ _ h => h)).then hu5 (fun k hk h => by have := (HO.out k h).1; omega)).then hu7 (fun k hk h => by have := (HP.out k h).1; omega)
          · have := HDJ.out.1; have h1 : D'.deeds = D.deeds := hdd.1; show D'.deeds ≤ _; omega
          · have h1 : D'.pend = [] := hdd.2; show D'.pend.length ≤ _; rw [h1]; exact Nat.zero_le _
        have HPN := Lib.hid hpl
        clear hpl hfr hsz e5 e7 e9
        have hlast : Calls Tryd.prog 28 #[.pointer (some ⟨bd, 0, none⟩), .pointer (some ⟨rb, 0, none⟩), .int .i64 act.n] (w7) fun r w' => r = .returned (.bool true) ∧ Upd (fun _ => False) (w7) w' := HPN.out.same ea HE.out act.n
        clear hu0d hED hDD hRR hkD hoB hpB hw hrel hdd hDW hRW hD5 hu5 d1 d3 hrw hR7 hu7 hk5 i3 c1 c3
        go_wp2_with fail
        refine hlast.mono ?_
        rintro r wz ⟨rfl, huz⟩
        have HPZ := Lib.hid (HPN.out.upd huz)
        clear hlast huz
        go_wp2_with fail
        go_roundg (n - (j + 1))
        case measure => omega
        case rel => exact ⟨j + 1, bd, by go_num, rfl, by omega, HPZ.out⟩
      · rw [← HNB.out]
        generalize (wr.alloc (.cells #[.int .i64 act.kind, .int .i64 act.n, .slice ba act.bytes.length bc, .slice ka act.keep.length kc] 39)) = W0 at HBLK HD1 HR1 HUW HB1 HK1 HSZA ⊢
        have hBW : B ≤ W0.heap.size := Nat.le_trans HE.out.hB HUW.out.size
        have HBW0 := Lib.hid hBW
        have hc := copy_c B O W0 bd D HD1.out hBW
        clear hBW
        refine hc.mono ?_
        rintro r w5 ⟨bc2, rfl, hC, hu5⟩
        have HC := Lib.hid hC
        have HU5 := Lib.hid hu5
        clear hc hC hu5
        have kc := fun (w : World) (C : Array Value) (n c : Nat) => Lib.run_convert_bytes_const (P := Tryd.prog) w 33 5 C n c Tryd.underlying33 Tryd.underlying5
        go_wp2_with fail
        clear kc
        have hu6 : Upd (fun _ => False) w5 (w5.alloc (.cells #[.int .u8 111, .int .u8 108, .int .u8 100] 5 (3, 4))) := (Upd.refl _ _).alloc _
        have hw := write_c ea B O (w5.alloc (.cells #[.int .u8 111, .int .u8 108, .int .u8 100] 5 (3, 4))) bd D ((HD1.out.upd HU5.out (fun _ _ h => h)).upd hu6 (fun _ _ h => h)) ((HE.out.upd HUW.out (fun _ h => h.elim)).upd (HU5.out.then hu6 (fun _ _ h => h)) (fun _ h => h.elim)) 0 (.slice (some ⟨w5.heap.size, 0, none⟩) 3 3) [111, 108, 100]
          ⟨_, _, rfl, fun _ => ⟨_, rfl, fun q u hq => by
            rw [Addr.add_mid, Nat.zero_add, World.cell?_alloc_mark]
            exact (by simpa [u8s, u8] using hq)⟩⟩
          (fun _ e => by
            have e' : w5.heap.size = bd := by injection e
            have := (HO.out bd HD1.out.ob).2.2
            have := HU5.out.size
            have := HSZA.out
            omega) (by have := HDJ.out.1; omega) (by have := HDJ.out.2; omega)
        have hle := D.write_le 0 [111, 108, 100]
        obtain ⟨cd, D', hDW⟩ : ∃ c D', D.write 0 [111, 108, 100] = (c, D') := ⟨_, _, rfl⟩
        rw [hDW] at hw hle
        have HU6 := Lib.hid hu6
        have HLE := Lib.hid hle
        clear hDW hu6 hle
        refine hw.mono ?_
        rintro r w7 ⟨rfl, ⟨O', hD7, hO'⟩, hu7⟩
        have HD7 := Lib.hid hD7
        have HO' := Lib.hid hO'
        have HU7 := Lib.hid hu7
        clear hw hD7 hO' hu7
        go_wp2_with fail
        have hs := sync_c ea B O' w7 bd D' HD7.out (((HE.out.upd HUW.out (fun _ h => h.elim)).upd (HU5.out.then HU6.out (fun _ _ h => h)) (fun _ h => h.elim)).upd HU7.out (fun k hk => HD1.out.ge k hk)) (by have := HDJ.out.1; have := HLE.out.1; show D'.deeds < _; omega)
        refine hs.mono ?_
        rintro r w8 ⟨rfl, hD8, hu8⟩
        have z5 := HU5.out.size
        have z6 := HU6.out.size
        have zA := HSZA.out
        have zB : (w5.alloc (.cells #[.int .u8 111, .int .u8 108, .int .u8 100] 5 (3, 4))).heap.size = w5.heap.size + 1 := by simp
        have hOk : ∀ k, O' k → ¬ P k ∧ w.heap.size ≤ k ∧ (k < nb ∨ w5.heap.size < k) := fun k hk => by
          rcases HO'.out k hk with hk | hk
          · exact ⟨(HO.out k hk).2.1, (HO.out k hk).1, .inl (HO.out k hk).2.2⟩
          · exact ⟨fun h => by have := (HP.out k h).2; omega, by omega, .inr (by omega)⟩
        have hCk : ∀ k, (W0.heap.size ≤ k ∧ k < w5.heap.size) → ¬ O k ∧ ¬ O' k := fun k hk => ⟨fun h => by have := (HO.out k h).2.2; omega, fun h => by have := (hOk k h).2.2; omega⟩
        have hpl : PL B w.heap.size w bc2 rb (j + 1) w8 := by
          refine ⟨D, R, _, P, ((HC.out.upd HU6.out (fun _ _ h => h)).upd HU7.out (fun k hk h => (hCk k hk).1 h)).upd hu8 (fun k hk h => (hCk k hk).2 h),
            (((HR1.out.upd HU5.out (fun _ _ h => h)).upd HU6.out (fun _ _ h => h)).upd HU7.out (fun k hk h => (HO.out k h).2.1 hk)).upd hu8 (fun k hk h => (hOk k h).1 hk), HREL.out, fun k hk => ⟨by omega, fun h => by have := (HP.out k h).2; omega⟩, fun k hk => (HP.out k hk).1, ?_, ?_, ?_⟩
          · exact ((((HUW.out.then HU5.out (fun _ _ h => h)).then HU6.out (fun _ _ h => h)).then HU7.out (fun k hk h => by have := (HO.out k h).1; omega)).then hu8 (fun k hk h => by have := (hOk k h).2.1; omega))
          · have := HDJ.out.1; omega
          · have := HDJ.out.2; omega
        have i1 : w8.cell? ⟨nb, 1, none⟩ = some (.int .i64 act.n) := ((((HBLK.out.upd HU5.out (fun h => h)).upd HU6.out (fun h => h)).upd HU7.out (fun h => Nat.lt_irrefl nb (HO.out nb h).2.2)).upd hu8 (fun h => by have := (hOk nb h).2.2; omega)).cell 1
        have HPN := Lib.hid hpl
        have hlast : Calls Tryd.prog 28 #[.pointer (some ⟨bc2, 0, none⟩), .pointer (some ⟨rb, 0, none⟩), .int .i64 act.n] (w8) fun r w' => r = .returned (.bool true) ∧ Upd (fun _ => False) (w8) w' := HPN.out.same ea HE.out act.n
        clear hs hD8 hu8 hpl z5 z6 zA zB hOk hCk
        go_wp2_with fail
        refine hlast.mono ?_
        rintro r wz ⟨rfl, huz⟩
        have HPZ := Lib.hid (HPN.out.upd huz)
        clear hlast huz
        go_wp2_with fail
        go_roundg (n - (j + 1))
        case measure => omega
        case rel => exact ⟨j + 1, bc2, by go_num, rfl, by omega, HPZ.out⟩
    · have hjn : j = n := by omega
      subst hjn
      have HPE := Lib.hid hpl
      clear hpl hj hlt
      go_wp2_with fail
      go_ret
      obtain ⟨D, R, O, P, h1, h2, h3, h4, h5, h6, h7, h8⟩ := HPE.out
      exact ⟨rfl, h6⟩
end Go.Proofs.YtlkmpjanchhahaaDoor
