/- cartagelaw04.DiskDeeds answers true. -/
import Derived.Test.YtlkmpjanchhahaaDoorAlive
namespace Go.Proofs.YtlkmpjanchhahaaDoor
open Go.RowKit
set_option linter.unusedSimpArgs false
set_option linter.unusedVariables false

/-- What the disk is after i tries, when n deeds were armed. -/
structure DInv (n i : Nat) (D : DM) : Prop where
  size : D.size = 4
  deeds : D.deeds = (min n i : Nat)
  left : D.left = (n : Int) - (min n i : Nat)
  off : D.off = decide (n < i)
  pend : D.pend.length ≤ i

theorem DInv.write {n i : Nat} {D : DM} (h : DInv n i D) (k : Int) (hk : 0 ≤ k) (hk4 : k < 4) (l : List UInt8) (hl : l.length ≤ 32) :
    (D.write k l).1 = (if i < n then none else some 1) ∧ DInv n (i + 1) (D.write k l).2 := by
  obtain ⟨h1, h2, h3, h4, h5⟩ := h
  unfold DM.write
  by_cases ho : n < i
  · rw [h4, decide_eq_true ho, if_pos rfl]
    refine ⟨by rw [if_neg (by omega)], h1, by show D.deeds = _; rw [h2]; omega, by show D.left = _; rw [h3]; omega, by show D.off = _; rw [h4, decide_eq_true ho, decide_eq_true (by omega)], by show D.pend.length ≤ _; omega⟩
  · have hhas : D.has k = true := by unfold DM.has; simp; omega
    rw [h4, decide_eq_false ho, if_neg (by simp), hhas, if_neg (by simp), if_neg (by omega)]
    by_cases hl : D.left = 0
    · rw [if_pos hl]
      have : n = i := by omega
      unfold DM.deed
      rw [if_pos hl]
      refine ⟨by rw [if_neg (by omega)], h1, by show D.deeds = _; rw [h2]; congr 1; omega, by show D.left = _; rw [h3]; congr 2; omega, by show true = _; simp; omega, by show D.pend.length ≤ _; omega⟩
    · rw [if_neg hl]
      unfold DM.deed
      rw [if_neg hl]
      refine ⟨by show none = _; rw [if_pos (by omega)], h1, by show D.deeds + 1 = _; rw [h2]; omega, ?_, by show D.off = _; rw [h4]; simp; omega, by show (D.pend ++ _).length ≤ _; simp; omega⟩
      show (if 0 < D.left then D.left - 1 else D.left) = _
      rw [if_pos (by omega), h3]
      omega
theorem DInv.sync {n i : Nat} {D : DM} (h : DInv n i D) :
    D.sync.1 = (if i < n then none else some 1) ∧ DInv n (i + 1) D.sync.2 := by
  obtain ⟨h1, h2, h3, h4, h5⟩ := h
  unfold DM.sync
  by_cases ho : n < i
  · rw [h4, decide_eq_true ho, if_pos rfl]
    refine ⟨by rw [if_neg (by omega)], h1, by show D.deeds = _; rw [h2]; omega, by show D.left = _; rw [h3]; omega, by show D.off = _; rw [h4, decide_eq_true ho, decide_eq_true (by omega)], by show D.pend.length ≤ _; omega⟩
  · rw [h4, decide_eq_false ho, if_neg (by simp)]
    by_cases hl : D.left = 0
    · rw [if_pos hl]
      have : n = i := by omega
      unfold DM.deed
      rw [if_pos hl]
      refine ⟨by rw [if_neg (by omega)], h1, by show D.deeds = _; rw [h2]; congr 1; omega, by show D.left = _; rw [h3]; congr 2; omega, by show true = _; simp; omega, by show D.pend.length ≤ _; omega⟩
    · rw [if_neg hl]
      unfold DM.deed
      rw [if_neg hl]
      refine ⟨by show none = _; rw [if_pos (by omega)], h1, by show D.deeds + 1 = _; rw [h2]; omega, ?_, by show D.off = _; rw [h4]; simp; omega, by show ([] : List (Int × List UInt8)).length ≤ _; simp⟩
      show (if 0 < D.left then D.left - 1 else D.left) = _
      rw [if_pos (by omega), h3]
      omega

/-- The disk that is armed and its copy, apart, behind i tries. -/
def DPair (B : Nat) (w : World) (OC : Nat → Prop) (s4 b bc n i : Nat) (wr : World) : Prop :=
  ∃ D O, DInv n i D ∧ DiskIn B O wr b D ∧ (∀ k, O k → w.heap.size ≤ k ∧ ¬ OC k) ∧ DiskIn B OC wr bc { DM.new 4 with left := n } ∧ Upd (fun _ => False) w wr ∧ s4 ≤ wr.heap.size

theorem wrap_mod (x : Int) (m : Nat) (hm : 0 < m) (hm2 : m ≤ 1000000) : ∃ n : Nat, n < m ∧ wrap64 ((IntKind.u64.wrap x).tmod m) = n := by
  have h1 : 0 ≤ IntKind.u64.wrap x := by unfold IntKind.wrap; simp [IntKind.bits, IntKind.signed]; omega
  have h2 : (IntKind.u64.wrap x).tmod m = (IntKind.u64.wrap x) % m := Int.tmod_eq_emod_of_nonneg h1
  have h3 : 0 ≤ (IntKind.u64.wrap x) % (m : Int) := Int.emod_nonneg _ (by omega)
  have h4 : (IntKind.u64.wrap x) % (m : Int) < m := Int.emod_lt_of_pos _ (by omega)
  refine ⟨((IntKind.u64.wrap x) % (m : Int)).toNat, by omega, ?_⟩
  rw [h2]
  unfold wrap64
  omega
set_option maxRecDepth 20000 in
set_option maxHeartbeats 1000000 in
theorem deeds_law (ea : Nat → Addr) (B : Nat) (w : World) (hE : Errs ea B w) (x y : Int) :
    Calls Tryd.prog 3 #[.int .i64 x, .int .i64 y] w fun r w' => r = .returned (.bool true) ∧ Upd (fun _ => False) w w' := by
  have hal := alive_c ea B w hE
  have HE := Lib.hid hE
  clear hE
  go_enter Tryd.func3, Tryd.ntmps3
  go_wp2_with fail
  refine hal.mono ?_
  rintro r w1 ⟨rfl, hu1⟩
  have HU1 := Lib.hid hu1
  clear hal hu1
  go_wp2_with fail
  have hnew := new_ok B w1 4 (by omega) (by omega) (Nat.le_trans HE.out.hB HU1.out.size)
  refine hnew.mono ?_
  rintro r w2 ⟨b, rfl, hD, hu2⟩
  have hu2' : Upd (fun _ => False) w w2 := HU1.out.then hu2 (fun _ _ h => h)
  have HD := Lib.hid hD
  have HU2 := Lib.hid hu2'
  clear hnew hD hu2 hu2'
  go_wp2_with fail
  obtain ⟨n, hn, en⟩ := wrap_mod x 30 (by omega) (by omega)
  obtain ⟨m, hm, em⟩ := wrap_mod y 40 (by omega) (by omega)
  have en : wrap64 ((IntKind.u64.wrap x).tmod 30) = n := en
  have em : wrap64 ((IntKind.u64.wrap y).tmod 40) = m := em
  rw [en, em]
  clear en em
  have ha := arm_c ea B _ w2 b _ HD.out (HE.out.upd HU2.out (fun _ h => h.elim)) (n : Int) (by omega)
  have e2 : (DM.new 4).arm n = (none, { DM.new 4 with left := n }) := by unfold DM.arm; rw [if_neg (by omega)]; rfl
  rw [e2] at ha
  refine ha.mono ?_
  rintro r w3 ⟨rfl, hD3, hu3⟩
  have hb : w.heap.size ≤ b := by
    obtain ⟨m, pv, o1, _⟩ := HD.out
    have := HU1.out.size
    have := o1.1
    omega
  have hu3' : Upd (fun _ => False) w w3 := HU2.out.then hu3 (fun i hi h => by omega)
  have HS23 := Lib.hid hu3.size
  have HD3 := Lib.hid hD3
  have HU3 := Lib.hid hu3'
  clear ha hD3 hu3 hu3' e2
  simp only [ev]
  go_wp2_with fail
  have hc := copy_c B _ w3 b _ HD3.out (Nat.le_trans HE.out.hB HU3.out.size)
  refine hc.mono ?_
  rintro r w4 ⟨bc, rfl, hC, hu4⟩
  have hu4' : Upd (fun _ => False) w w4 := HU3.out.then hu4 (fun _ _ h => h)
  have hD4 := HD3.out.upd hu4 (fun _ _ h => h)
  have HD4 := Lib.hid hD4
  have HC := Lib.hid hC
  have HU4 := Lib.hid hu4'
  clear hc hD4 hC hu4 hu4'
  go_wp2_with fail
  obtain ⟨OC, hOC⟩ : ∃ OC, OC = fun k => w3.heap.size ≤ k ∧ k < w4.heap.size := ⟨_, rfl⟩
  rw [← hOC] at HC
  have hpair : DPair B w OC w4.heap.size b bc n 0 w4 := by
    refine ⟨_, _, ⟨rfl, by show (0 : Int) = _; omega, by show (n : Int) = _; omega, by show false = _; simp, by show ([] : List (Int × List UInt8)).length ≤ 0; simp⟩, HD4.out, ?_, HC.out, HU4.out, Nat.le_refl _⟩
    intro k hk
    have h1 := HU1.out.size
    have h2 := hk.1
    have h3 := hk.2
    have h4 := HS23.out
    refine ⟨by omega, ?_⟩
    rw [hOC]
    intro h5
    have h6 := h5.1
    omega
  have HP := Lib.hid hpair
  have HOC := Lib.hid hOC
  clear hpair hOC
  go_loopg [33, 8] m (fun k p q wr => ∃ i : Nat, p = .int .i64 i ∧ q = .int .i64 (min n i : Nat) ∧ i + k = m ∧ DPair B w OC w4.heap.size b bc n i wr)
  case atStart => exact ⟨0, rfl, by simp, by omega, HP.out⟩
  case round =>
    obtain ⟨i, rfl, rfl, hi, hpair⟩ := hrel
    have HPI := Lib.hid hpair
    clear hpair
    by_cases hlt : i < m
    · have HI40 := Lib.hid (show i < 40 by omega)
      go_wp2_with fail
      · obtain ⟨D, O, hI, hD, hO, hC, hU, hs⟩ := HPI.out
        have hw := sync_c ea B O wr b D hD (HE.out.upd hU (fun _ h => h.elim)) (by rw [hI.deeds]; omega)
        obtain ⟨e1, hI'⟩ := hI.sync
        rw [e1] at hw
        refine hw.mono ?_
        rintro r w5 ⟨rfl, hD', hu5⟩
        have hpair : DPair B w OC w4.heap.size b bc n (i + 1) w5 := 
          ⟨_, O, hI', hD', hO, hC.upd hu5 (fun k hk hk2 => (hO k hk2).2 hk), hU.then hu5 (fun k hk hk2 => by have := (hO k hk2).1; omega), Nat.le_trans hs hu5.size⟩
        have HPI' := Lib.hid hpair
        clear hpair hI hD hO hC hU hs hw e1 hI' hD' hu5
        by_cases hin : i < n
        · rw [if_pos hin]
          have HMIN := Lib.hid (show (min n i : Nat) + 1 = min n (i + 1) by omega)
          simp only [ev]
          clear hin
          go_wp2_with fail
          go_roundg (m - (i + 1))
          case measure => omega
          case rel => exact ⟨i + 1, by go_num, by rw [← HMIN.out]; go_num, by omega, HPI'.out⟩
        · rw [if_neg hin]
          have HMIN := Lib.hid (show (min n i : Nat) = min n (i + 1) by omega)
          simp only [ev]
          clear hin
          go_wp2_with fail
          go_roundg (m - (i + 1))
          case measure => omega
          case rel => exact ⟨i + 1, by go_num, by rw [← HMIN.out], by omega, HPI'.out⟩
      · obtain ⟨D, O, hI, hD, hO, hC, hU, hs⟩ := HPI.out
        have hu1 : Upd (fun _ => False) wr (wr.alloc (.cells #[.int .u8 i] 5)) := (Upd.refl _ _).alloc _
        have hw := write_c ea B O (wr.alloc (.cells #[.int .u8 i] 5)) b D (hD.upd hu1 (fun _ _ h => h)) (HE.out.upd (hU.then hu1 (fun _ _ h => h)) (fun _ h => h.elim)) (i % 4) (.slice (some ⟨wr.heap.size, 0, none⟩) 1 1) [UInt8.ofNat i]
          ⟨_, _, rfl, fun _ => ⟨_, rfl, fun j u hj => by
            rw [Addr.add_mid, Nat.zero_add, (Blk.new wr 5 #[.int .u8 i]).cell]
            have : u8s [UInt8.ofNat i] = [.int .u8 i] := by
              have h40 := HI40.out
              simp only [u8s, u8, List.map_cons, List.map_nil]
              congr 2
              simp
              omega
            rw [this] at hj
            simpa using hj⟩⟩
          (fun _ e => by
            have e' : wr.heap.size = b := by injection e
            obtain ⟨m, pv, o1, _, _, _, o5, _⟩ := hD
            have := o5 b o1
            omega) (by rw [hI.deeds]; omega) (by have := hI.pend; have := HI40.out; omega)
        obtain ⟨e1, hI'⟩ := hI.write (i % 4) (by omega) (by omega) [UInt8.ofNat i] (by simp)
        rw [e1] at hw
        refine hw.mono ?_
        rintro r w5 ⟨rfl, ⟨O', hD', hO'⟩, hu5⟩
        have hu6 := hu1.size
        have hpair : DPair B w OC w4.heap.size b bc n (i + 1) w5 := by
          refine ⟨_, O', hI', hD', ?_, (hC.upd hu1 (fun _ _ h => h)).upd hu5 (fun k hk hk2 => (hO k hk2).2 hk), (hU.then hu1 (fun _ _ h => h)).then hu5 (fun k hk hk2 => by have := (hO k hk2).1; omega), by have := hu5.size; omega⟩
          intro k hk
          rcases hO' k hk with h | h
          · exact hO k h
          · refine ⟨by have := hU.size; omega, ?_⟩
            rw [HOC.out]
            intro h5
            have := h5.2
            omega
        have HPI' := Lib.hid hpair
        clear hpair hI hD hO hC hU hs hw e1 hI' hD' hu5 hO' hu1 hu6
        by_cases hin : i < n
        · rw [if_pos hin]
          have HMIN := Lib.hid (show (min n i : Nat) + 1 = min n (i + 1) by omega)
          simp only [ev]
          clear hin
          go_wp2_with fail
          go_roundg (m - (i + 1))
          case measure => omega
          case rel => exact ⟨i + 1, by go_num, by rw [← HMIN.out]; go_num, by omega, HPI'.out⟩
        · rw [if_neg hin]
          have HMIN := Lib.hid (show (min n i : Nat) = min n (i + 1) by omega)
          simp only [ev]
          clear hin
          go_wp2_with fail
          go_roundg (m - (i + 1))
          case measure => omega
          case rel => exact ⟨i + 1, by go_num, by rw [← HMIN.out], by omega, HPI'.out⟩
    · have him : i = m := by omega
      subst him
      clear hlt hi
      obtain ⟨D, O, hI, hD, hO, hC, hU, hs⟩ := HPI.out
      have d14 := deeds_c wr b D hD
      have d15 := off_c wr b D hD
      have c14 := deeds_c wr bc _ hC
      have c15 := off_c wr bc _ hC
      have c16 := pending_c wr bc _ hC
      rw [hI.deeds] at d14
      rw [hI.off] at d15
      have HU := Lib.hid hU
      clear hI hD hO hC hs hU
      by_cases hni : n ≤ i
      · have e : min n i = n := by omega
        rw [e] at d14 ⊢
        have e2 : decide (n < i) = decide ((n : Int) < i) := by simp
        rw [e2] at d15
        clear e e2
        go_wp2_with (first
          | (go_at_call 14; refine d14.mono ?_; rintro r w' ⟨rfl, rfl⟩)
          | (go_at_call 14; refine c14.mono ?_; rintro r w' ⟨rfl, rfl⟩)
          | (go_at_call 15; refine d15.mono ?_; rintro r w' ⟨rfl, rfl⟩)
          | (go_at_call 15; refine c15.mono ?_; rintro r w' ⟨rfl, rfl⟩)
          | (go_at_call 16; refine c16.mono ?_; rintro r w' ⟨rfl, rfl⟩))
        go_ret
        exact ⟨rfl, HU.out⟩
      · have e : min n i = i := by omega
        rw [e] at d14 ⊢
        have e2 : decide (n < i) = decide ((n : Int) < i) := by simp
        rw [e2] at d15
        clear e e2
        go_wp2_with (first
          | (go_at_call 14; refine d14.mono ?_; rintro r w' ⟨rfl, rfl⟩)
          | (go_at_call 14; refine c14.mono ?_; rintro r w' ⟨rfl, rfl⟩)
          | (go_at_call 15; refine d15.mono ?_; rintro r w' ⟨rfl, rfl⟩)
          | (go_at_call 15; refine c15.mono ?_; rintro r w' ⟨rfl, rfl⟩)
          | (go_at_call 16; refine c16.mono ?_; rintro r w' ⟨rfl, rfl⟩))
        go_ret
        exact ⟨rfl, HU.out⟩
end Go.Proofs.YtlkmpjanchhahaaDoor
