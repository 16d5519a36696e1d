/- cartagelaw04.DiskKeeps: the walk. -/
import Derived.Test.YtlkmpjanchhahaaDoorKeeps0
import Derived.Test.YtlkmpjanchhahaaDoorHeld
import Derived.Test.YtlkmpjanchhahaaDoorZeros
import Derived.Test.YtlkmpjanchhahaaDoorPlan
import Derived.Test.YtlkmpjanchhahaaDoorPad
import Derived.Deep.RegionHeld3
namespace Go.Proofs.YtlkmpjanchhahaaDoor
open Go.RowKit
set_option linter.unusedSimpArgs false
set_option linter.unusedVariables false

theorem conv5 (n : Int) (W : World) : (convert 28 3 (.int .u64 ((IntKind.u64.wrap n).tmod 5))).run Tryd.prog W = .ok (.int .i64 (idx5 n)) W := by
  have h : IntKind.i64.wrap ((IntKind.u64.wrap n).tmod 5) = idx5 n := by
    rw [IntKind.wrap_i64]
    unfold idx5 wrap64
    rfl
  simp [convert, run_underlying Tryd.underlying28, run_underlying Tryd.underlying3, Conv.intToInt, h]
theorem fa39 (nb : Nat) (W : World) : (Instr.fieldAt 39 (.pointer (some ⟨nb, 0, none⟩)) 0).run Tryd.prog W = .ok (.pointer (some ⟨nb, 0, none⟩)) W ∧
    (Instr.fieldAt 39 (.pointer (some ⟨nb, 0, none⟩)) 1).run Tryd.prog W = .ok (.pointer (some ⟨nb, 1, none⟩)) W ∧
    (Instr.fieldAt 39 (.pointer (some ⟨nb, 0, none⟩)) 2).run Tryd.prog W = .ok (.pointer (some ⟨nb, 2, none⟩)) W := ⟨by go_simp, by go_simp, by go_simp⟩
/-- The first loop's relation. -/
def KLoop (B : Nat) (w : World) (l : List ActM) (b j : Nat) (wr : World) : Prop :=
  ∃ D O, KInv l j D ∧ DiskIn B O wr b D ∧ (∀ k, O k → w.heap.size ≤ k) ∧ Upd (fun _ => False) w wr

set_option maxRecDepth 20000 in
set_option maxHeartbeats 20000000 in
theorem keeps_law (ea : Nat → Addr) (B : Nat) (w : World) (hE : Errs ea B w) (v kv : Value) (l : List ActM) (keep : List Bool) (hl : ActsR w.heap.size w v l) (hk : BoolsR w kv keep) (hkb : 0 < keep.length → ∀ k, kv.ownBlock = some k → k < w.heap.size) :
    Calls Tryd.prog 4 #[v, kv] w fun r w' => r = .returned (.bool true) ∧ Upd (fun _ => False) w w' := by
  have hal := alive_c ea B w hE
  have HE := Lib.hid hE
  have HL := Lib.hid hl
  have HK := Lib.hid hk
  have HKB := Lib.hid hkb
  obtain ⟨A, cv, rfl, _⟩ := hl
  obtain ⟨KA, kc, rfl, _⟩ := hk
  clear hE hkb
  obtain ⟨n, hn⟩ : ∃ n, n = l.length := ⟨_, rfl⟩
  rw [← hn] at HL ⊢
  have HN := Lib.hid hn
  clear hn
  by_cases h60 : 60 < n
  · go_enter Tryd.func4, Tryd.ntmps4
    go_wp2_with fail
    refine hal.mono ?_
    rintro r w1 ⟨rfl, hu1⟩
    have HU1 := Lib.hid hu1
    clear hal hu1
    go_wp2_with fail
    go_ret
    exact ⟨rfl, HU1.out⟩
  go_enter Tryd.func4, Tryd.ntmps4
  go_wp2_with fail
  refine hal.mono ?_
  rintro r w1 ⟨rfl, hu1⟩
  have HU1 := Lib.hid hu1
  clear hal hu1
  go_wp2_with fail
  have hnew := new_ok B w1 5 (by omega) (by omega) (Nat.le_trans HE.out.hB HU1.out.size)
  refine hnew.mono ?_
  rintro r w2 ⟨b, rfl, hD, hu2⟩
  have hu2' : Upd (fun _ => False) w w2 := HU1.out.then hu2 (fun _ _ h => h)
  have HD := Lib.hid hD
  have HU2 := Lib.hid hu2'
  clear hnew hD hu2 hu2'
  go_wp2_with fail
  have hk0 : KLoop B w l b 0 w2 := ⟨_, _, KInv.new l, HD.out, fun k hk => by have := HU1.out.size; have := hk.1; omega, HU2.out⟩
  have HK0 := Lib.hid hk0
  clear hk0
  go_loopg [38] n (fun k p wr => ∃ j : Nat, p = .int .i64 j ∧ j + k = n ∧ KLoop B w l b j wr)
  case atStart => exact ⟨0, rfl, by omega, HK0.out⟩
  case round =>
    obtain ⟨j, rfl, hj, hkl⟩ := hrel
    have HKL := Lib.hid hkl
    clear hkl
    by_cases hlt : j < n
    · have hjl : j < l.length := by rw [← HN.out]; exact hlt
      obtain ⟨D, O, hI, hD, hO, hU⟩ := HKL.out
      have hacts : ActsR w.heap.size wr (.slice A l.length cv) l := by
        have := HL.out.upd hU
        rw [HN.out] at this
        exact this
      obtain ⟨A0, c0, e0, h0⟩ := hacts
      injection e0 with e1 e2 e3
      subst e1
      obtain ⟨ab, ao, rfl, hrow⟩ := h0 (by omega)
      obtain ⟨bv, kv', hr, hb, hkb', hbw, _⟩ := hrow j hjl
      obtain ⟨ka', kc', rfl, _⟩ := hkb'
      obtain ⟨act, hact⟩ : ∃ act, act = l[j] := ⟨_, rfl⟩
      rw [← hact] at hr hb hbw
      have hmem : act ∈ l := by rw [hact]; exact List.getElem_mem hjl
      have hst := hI.step act hmem
      have HB := Lib.hid hb
      obtain ⟨ba, bc, rfl, _⟩ := hb
      have HI := Lib.hid hI
      have HD1 := Lib.hid hD
      have HO := Lib.hid hO
      have HUr := Lib.hid hU
      have HR := Lib.hid hr
      have HST := Lib.hid hst
      have HBW := Lib.hid hbw
      clear hI hD hO hU hr hst hbw h0 hrow hact hmem e2 e3
      go_wp2_with (first
        | (refine wpl_load rfl 39 _ rfl ab (ao + j * 4) rfl _ _ HR.out Tryd.underlying39 rfl (by kernel_rfl) ?_)
        | (refine wpl_store_new rfl 39 _ _ rfl wr [.int .i64 0, .int .i64 0, .slice none 0 0, .slice none 0 0] 39 rfl rfl _ rfl rfl (by kernel_rfl) (by simp [Value.oneCell']) ?_)
        | fail)
      · have hk1 : act.kind = 1 := by simpa using ‹(act.kind == 1) = true›
        have hu1 : Upd (fun _ => False) wr (wr.alloc (.cells #[.int .i64 act.kind, .int .i64 act.n, .slice ba act.bytes.length bc, .slice ka' act.keep.length kc'] 39)) := (Upd.refl _ _).alloc _
        have hs := sync_c ea B O _ b D (HD1.out.upd hu1 (fun _ _ h => h)) (HE.out.upd (HUr.out.then hu1 (fun _ _ h => h)) (fun _ h => h.elim)) (by have := HI.out.deeds; omega)
        refine hs.mono ?_
        rintro r w5 ⟨rfl, hD', hu5⟩
        have hst' := HST.out
        unfold kstep at hst'
        rw [if_pos hk1] at hst'
        have hkl : KLoop B w l b (j + 1) w5 := ⟨_, O, hst', hD', HO.out, (HUr.out.then hu1 (fun _ _ h => h)).then hu5 (fun k hk h => by have := HO.out k h; omega)⟩
        have HKL' := Lib.hid hkl
        clear hkl hst' hD' hu5 hs hu1 hk1
        go_wp2_with fail
        go_roundg (n - (j + 1))
        case measure => omega
        case rel => exact ⟨j + 1, by go_num, by omega, HKL'.out⟩
      · have hk1 : ¬ act.kind = 1 := by simpa using ‹(act.kind == 1) = false›
        have hlen : act.bytes.length ≤ 32 := by have := ‹(act.bytes.length : Int) ≤ 32›; omega
        have hu1 : Upd (fun _ => False) wr (wr.alloc (.cells #[.int .i64 act.kind, .int .i64 act.n, .slice ba act.bytes.length bc, .slice ka' act.keep.length kc'] 39)) := (Upd.refl _ _).alloc _
        have hs := write_c ea B O _ b D (HD1.out.upd hu1 (fun _ _ h => h)) (HE.out.upd (HUr.out.then hu1 (fun _ _ h => h)) (fun _ h => h.elim)) (idx5 act.n) (.slice ba act.bytes.length bc) act.bytes (HB.out.upd hu1 (fun _ _ h => h))
          (fun hp e => by
            have := HBW.out hp b e
            obtain ⟨m, pv, o1, _⟩ := HD1.out
            have := HO.out b o1
            omega) (by have := HI.out.deeds; omega) (by have := HI.out.pend; omega)
        refine hs.mono ?_
        rintro r w5 ⟨rfl, ⟨O', hD', hO'⟩, hu5⟩
        have hst' := HST.out
        unfold kstep at hst'
        rw [if_neg hk1, if_pos hlen] at hst'
        have hkl : KLoop B w l b (j + 1) w5 := by
          refine ⟨_, O', hst', hD', ?_, (HUr.out.then hu1 (fun _ _ h => h)).then hu5 (fun k hk h => by have := HO.out k h; omega)⟩
          intro k hk
          rcases hO' k hk with h | h
          · exact HO.out k h
          · have h1 := HUr.out.size
            have h2 := hu1.size
            omega
        have HKL' := Lib.hid hkl
        clear hkl hst' hD' hu5 hs hu1 hk1 hO' hlen
        go_wp2_with fail
        go_roundg (n - (j + 1))
        case measure => omega
        case rel => exact ⟨j + 1, by go_num, by omega, HKL'.out⟩
      · have hk1 : ¬ act.kind = 1 := by simpa using ‹(act.kind == 1) = false›
        have hlen : ¬ act.bytes.length ≤ 32 := by have := ‹32 < (act.bytes.length : Int)›; omega
        have hu1 : Upd (fun _ => False) wr (wr.alloc (.cells #[.int .i64 act.kind, .int .i64 act.n, .slice ba act.bytes.length bc, .slice ka' act.keep.length kc'] 39)) := (Upd.refl _ _).alloc _
        have hst' := HST.out
        unfold kstep at hst'
        rw [if_neg hk1, if_neg hlen] at hst'
        have hkl : KLoop B w l b (j + 1) _ := ⟨_, O, hst', HD1.out.upd hu1 (fun _ _ h => h), HO.out, HUr.out.then hu1 (fun _ _ h => h)⟩
        have HKL' := Lib.hid hkl
        clear hkl hst' hu1 hk1 hlen
        go_roundg (n - (j + 1))
        case measure => omega
        case rel => exact ⟨j + 1, by go_num, by omega, HKL'.out⟩
    · have hjn : j = n := by omega
      subst hjn
      obtain ⟨D, O, hI, hD, hO, hU⟩ := HKL.out
      have HI := Lib.hid hI
      have HD1 := Lib.hid hD
      have HO := Lib.hid hO
      have HUr := Lib.hid hU
      clear hI hD hO hU hlt hj
      go_wp2_with fail
      have hc := copy_c B O wr b D HD1.out (Nat.le_trans HE.out.hB HUr.out.size)
      refine hc.mono ?_
      rintro r w4 ⟨ba, rfl, hA, hu4⟩
      have hD4 := HD1.out.upd hu4 (fun _ _ h => h)
      have hu4' := HUr.out.then hu4 (fun _ _ h => h)
      obtain ⟨OA, hOA⟩ : ∃ OA, OA = fun k => wr.heap.size ≤ k ∧ k < w4.heap.size := ⟨_, rfl⟩
      rw [← hOA] at hA
      have hsep : (∀ k, O k → ¬ OA k ∧ k < w4.heap.size) ∧ ∀ k, OA k → k < w4.heap.size ∧ w.heap.size ≤ k := by
        refine ⟨fun k hk => ?_, fun k hk => ?_⟩
        · have h1 := HD1.out.lt k hk
          have h2 := hu4.size
          refine ⟨fun h => ?_, by omega⟩
          rw [hOA] at h
          have := h.1
          omega
        · rw [hOA] at hk
          have := HUr.out.size
          have := hk.1
          exact ⟨hk.2, by omega⟩
      have HSEP := Lib.hid hsep
      have HA := Lib.hid hA
      have HD4 := Lib.hid hD4
      have HU4 := Lib.hid hu4'
      have HS4 := Lib.hid hu4.size
      clear hc hA hu4 hD4 hu4' hOA hsep
      go_wp2_with fail
      have hp := pending_c w4 b D HD4.out
      refine hp.mono ?_
      rintro r w5 ⟨rfl, rfl⟩
      clear hp
      obtain ⟨q, hq⟩ : ∃ q, q = D.pend.length := ⟨_, rfl⟩
      have hq60 : q ≤ 60 := by have := HI.out.pend; omega
      rw [← hq]
      have HQ := Lib.hid hq
      clear hq
      have hmk : ∀ W : World, (Instr.makeSlice 37 (.int .i64 q) (.int .i64 q)).run Tryd.prog W = .ok (.slice (some ⟨W.heap.size, 0, none⟩) q q) (W.alloc (.cells (List.replicate q (Value.bool false)).toArray 4)) := fun W =>
        run_make_cells 37 4 (.bool false) 1 Tryd.underlying37 (by kernel_rfl) rfl q (by omega) (by omega)
      go_wp2_with fail
      have hblk0 : Blk (w4.alloc (.cells (Array.replicate q (Value.bool false)) 4)) w4.heap.size 4 ((List.replicate 0 true ++ List.replicate (q - 0) false).map Value.bool).toArray := by
        have := Blk.new w4 4 (Array.replicate q (Value.bool false))
        simpa using this
      have HB0 := Lib.hid hblk0
      have hu0 : Upd (fun _ => False) w4 (w4.alloc (.cells (Array.replicate q (Value.bool false)) 4)) := (Upd.refl _ _).alloc _
      have HUB0 := Lib.hid hu0
      clear hblk0 hmk hu0
      go_loopg [68] q (fun k p wq => ∃ i : Nat, p = .int .i64 i ∧ i + k = q ∧ Blk wq w4.heap.size 4 ((List.replicate i true ++ List.replicate (q - i) false).map Value.bool).toArray ∧ Upd (fun _ => False) w4 wq)
      case atStart => exact ⟨0, rfl, by omega, HB0.out, HUB0.out⟩
      case round =>
        obtain ⟨i, rfl, hi, hblk, hup⟩ := hrel
        by_cases hiq : i < q
        · have hc : wr.cell? ⟨w4.heap.size, i, none⟩ = some (.bool false) := by
            rw [hblk.cell i]
            exact trues_at q i hiq
          have hf : wr.frozen? ⟨w4.heap.size, i, none⟩ = false := hblk.froz i
          have HBL := Lib.hid hblk
          have HUP := Lib.hid hup
          clear hblk hup
          go_wp2_with fail
          go_roundg (q - (i + 1))
          case measure => omega
          case rel =>
            refine ⟨i + 1, by go_num, by omega, ?_, HUP.out.setCell (fun h => absurd h (Nat.lt_irrefl _)) _⟩
            have := HBL.out.set i (.bool true)
            rw [trues_set q i hiq] at this
            exact this
        · have hiq' : i = q := by omega
          subst hiq'
          have HBL := Lib.hid hblk
          have HUP := Lib.hid hup
          clear hblk hup hiq hi
          go_wp2_with fail
          have hbools : BoolsR wr (.slice (some ⟨w4.heap.size, 0, none⟩) i i) (List.replicate i true) := by
            refine ⟨_, i, by rw [List.length_replicate], fun _ => ⟨w4.heap.size, 0, rfl, fun k hk => ?_⟩⟩
            rw [HBL.out.cell]
            simp at hk
            simp [hk]
          have hcr := crash_c B OA wr ba D (HA.out.upd HUP.out (fun _ _ h => h)) _ (List.replicate i true) hbools (fun _ k hk h => by
            have := (HSEP.out.2 k h).1
            have e : w4.heap.size = k := by injection hk
            omega)
          rw [HQ.out, crash_all] at hcr
          rw [← HQ.out] at hcr
          refine hcr.mono ?_
          rintro r w6 ⟨rfl, hA6, hu6⟩
          have hD6 := (HD4.out.upd HUP.out (fun _ _ h => h)).upd hu6 (fun k hk => (HSEP.out.1 k hk).1)
          have hu6' : Upd (fun _ => False) w w6 := (HU4.out.then HUP.out (fun _ _ h => h)).then hu6 (fun k hk h => by have := (HSEP.out.2 k h).2; omega)
          have hs6 : w4.heap.size ≤ w6.heap.size := Nat.le_trans HUP.out.size hu6.size
          have HA6 := Lib.hid hA6
          have HD6 := Lib.hid hD6
          have HU6 := Lib.hid hu6'
          have HS6 := Lib.hid hs6
          clear hcr hA6 hu6 hD6 hu6' hs6 hbools
          go_wp2_with fail
          have hc := copy_c B O w6 b D HD6.out (Nat.le_trans HE.out.hB HU6.out.size)
          refine hc.mono ?_
          rintro r w7 ⟨bw, rfl, hW, hu7⟩
          obtain ⟨OW, hOW⟩ : ∃ OW, OW = fun k => w6.heap.size ≤ k ∧ k < w7.heap.size := ⟨_, rfl⟩
          rw [← hOW] at hW
          have hsepW : ∀ k, OW k → ¬ O k ∧ ¬ OA k := by
            intro k hk
            rw [hOW] at hk
            have h1 := hk.1
            have h2 := HS6.out
            exact ⟨fun h => by have := (HSEP.out.1 k h).2; omega, fun h => by have := (HSEP.out.2 k h).1; omega⟩
          have hD7 := HD6.out.upd hu7 (fun _ _ h => h)
          have hA7 := HA6.out.upd hu7 (fun _ _ h => h)
          have hu7' := HU6.out.then hu7 (fun _ _ h => h)
          have HW := Lib.hid hW
          have HSEPW := Lib.hid hsepW
          have HD7 := Lib.hid hD7
          have HA7 := Lib.hid hA7
          have HU7 := Lib.hid hu7'
          clear hc hW hsepW hD7 hA7 hu7' hOW hu7
          go_wp2_with fail
          have hcr := crash_c B O w7 b D HD7.out (.slice KA keep.length kc) keep (HK.out.upd HU7.out (fun _ _ h => h)) (fun hp k hk h => by
            have := HKB.out hp k hk
            have := HO.out k h
            omega)
          refine hcr.mono ?_
          rintro r w8 ⟨rfl, hD8, hu8⟩
          have hA8 := HA7.out.upd hu8 (fun k hk h => (HSEP.out.1 k h).1 hk)
          have hW8 := HW.out.upd hu8 (fun k hk h => (HSEPW.out k hk).1 h)
          have hu8' : Upd (fun _ => False) w w8 := HU7.out.then hu8 (fun k hk h => by have := HO.out k h; omega)
          have HA8 := Lib.hid hA8
          have HW8 := Lib.hid hW8
          have HD8 := Lib.hid hD8
          have HU8 := Lib.hid hu8'
          clear hcr hA8 hW8 hD8 hu8 hu8'
          go_wp2_with fail
          go_loopg [86] 5 (fun k p wr => ∃ i : Nat, p = .int .i64 i ∧ i + k = 5 ∧ Upd (fun _ => False) w8 wr)
          case atStart => exact ⟨0, rfl, by omega, Upd.refl _ _⟩
          case round =>
            obtain ⟨t, rfl, ht, hup⟩ := hrel
            have hUP := Lib.hid hup
            clear hup
            by_cases ht5 : t < 5
            · have hhas : ∀ D' : DM, D'.size = 5 → D'.has t = true := fun D' h => by unfold DM.has; simp; omega
              have h5 := HI.out.size
              go_wp2_with fail
              have e1 := safe_ok ea B OW wr bw D (HW8.out.upd hUP.out (fun _ _ h => h)) (HE.out.upd (HU8.out.then hUP.out (fun _ _ h => h)) (fun _ h => h.elim)) t (hhas D h5)
              refine e1.mono ?_
              rintro r w9 ⟨v1, rfl, hv1, hu9⟩
              have HV1 := Lib.hid hv1
              have HU9 := Lib.hid (hUP.out.then hu9 (fun _ _ h => h))
              clear e1 hv1 hu9
              go_wp2_with fail
              have e2 := read_ok ea B OW w9 bw D (HW8.out.upd HU9.out (fun _ _ h => h)) (HE.out.upd (HU8.out.then HU9.out (fun _ _ h => h)) (fun _ h => h.elim)) t (hhas D h5) HI.out.off
              refine e2.mono ?_
              rintro r w10 ⟨v2, rfl, hv2, hu10⟩
              have HV2 := Lib.hid hv2
              have HU10 := Lib.hid (HU9.out.then hu10 (fun _ _ h => h))
              have HV1b := Lib.hid (HV1.out.upd hu10)
              clear e2 hv2 hu10
              go_wp2_with fail
              have e3 := read_ok ea B O w10 b (D.crash keep).2 (HD8.out.upd HU10.out (fun _ _ h => h)) (HE.out.upd (HU8.out.then HU10.out (fun _ _ h => h)) (fun _ h => h.elim)) t (hhas _ h5) rfl
              refine e3.mono ?_
              rintro r w11 ⟨v3, rfl, hv3, hu11⟩
              have HV3 := Lib.hid hv3
              have HU11 := Lib.hid (HU10.out.then hu11 (fun _ _ h => h))
              have HV1c := Lib.hid (HV1b.out.upd hu11)
              have HV2b := Lib.hid (HV2.out.upd hu11)
              clear e3 hv3 hu11
              go_wp2_with fail
              have e4 := safe_ok ea B OA w11 ba _ (HA8.out.upd HU11.out (fun _ _ h => h)) (HE.out.upd (HU8.out.then HU11.out (fun _ _ h => h)) (fun _ h => h.elim)) t (hhas _ h5)
              refine e4.mono ?_
              rintro r w12 ⟨v4, rfl, hv4, hu12⟩
              have hv4' : BytesAt w12 v4 (D.seen t) := by rw [← keeps_all HI.out]; exact hv4
              have HU12 := Lib.hid (HU11.out.then hu12 (fun _ _ h => h))
              have s1 := str_of (HV1c.out.upd hu12)
              have s2 := str_of (HV2b.out.upd hu12)
              have s3 := str_of (HV3.out.upd hu12)
              have s4 := str_of hv4'
              have HV3b := Lib.hid (HV3.out.upd hu12)
              clear e4 hv4 hv4' hu12 h5 hhas
              go_wp2_with fail
              have hx0 : ((bs ((D.crash keep).2.seen t)).toList == (bs (mget D.safe t)).toList) = decide ((D.crash keep).2.seen t = mget D.safe t) := by
                rw [Bool.eq_iff_iff]
                simp only [beq_iff_eq, decide_eq_true_eq]
                simp [ByteArray.toList_eq, bs]
              rw [hx0]
              clear hx0 s1 s2 s3 s4
              obtain ⟨NOW, hNOW⟩ : ∃ N, N = (D.crash keep).2.seen t := ⟨_, rfl⟩
              rw [← hNOW] at HV3b ⊢
              have HNOW := Lib.hid hNOW
              clear hNOW
              go_loopg [129, 22] j (fun k p q wr => ∃ (u : Nat) (x : Bool), p = .int .i64 u ∧ q = .bool x ∧ u + k = j ∧ (x = true ↔ NOW = mget D.safe t ∨ ∃ a ∈ l.take u, Wrote t NOW a) ∧ Upd (fun _ => False) w12 wr)
              case atStart => exact ⟨0, decide (NOW = mget D.safe t), rfl, rfl, by omega, by simp, Upd.refl _ _⟩
              case round =>
                obtain ⟨u, x, rfl, rfl, hu, hx, hup⟩ := hrel
                have HX := Lib.hid hx
                have HUP4 := Lib.hid hup
                clear hx hup
                by_cases huj : u < j
                · have hul : u < l.length := by rw [← HN.out]; exact huj
                  have hacts : ActsR w.heap.size wr (.slice A l.length cv) l := by
                    have := (HL.out.upd HU8.out).upd (HU12.out.then HUP4.out (fun _ _ h => h))
                    rw [HN.out] at this
                    exact this
                  obtain ⟨A0, c0, e0, h0⟩ := hacts
                  injection e0 with e1 e2 e3
                  subst e1
                  obtain ⟨ab, ao, rfl, hrow⟩ := h0 (by omega)
                  obtain ⟨bv, kv', hr, hb, hkb', hbw, hbn⟩ := hrow u hul
                  obtain ⟨ka', kc', rfl, _⟩ := hkb'
                  obtain ⟨act, hact⟩ : ∃ act, act = l[u] := ⟨_, rfl⟩
                  rw [← hact] at hr hb
                  have htk : l.take (u + 1) = l.take u ++ [act] := by rw [hact, List.take_succ_eq_append_getElem hul]
                  have HB := Lib.hid hb
                  obtain ⟨ba', bc, rfl, _⟩ := hb
                  have HBN := Lib.hid hbn
                  have HTK := Lib.hid htk
                  have HR := Lib.hid hr
                  clear hr hbw h0 hrow hact e2 e3 hbn htk
                  go_wp2_with (first
                    | (refine wpl_load rfl 39 _ rfl ab (ao + u * 4) rfl _ _ HR.out Tryd.underlying39 rfl (by kernel_rfl) ?_)
                    | (refine wpl_store_new rfl 39 _ _ rfl wr [.int .i64 0, .int .i64 0, .slice none 0 0, .slice none 0 0] 39 rfl rfl _ rfl rfl (by kernel_rfl) (by simp [Value.oneCell']) ?_)
                    | fail)
                  have hup1 : Upd (fun _ => False) w12 (wr.alloc (.cells #[.int .i64 act.kind, .int .i64 act.n, .slice ba' act.bytes.length bc, .slice ka' act.keep.length kc'] 39)) := HUP4.out.alloc _
                  have hnb : Blk (wr.alloc (.cells #[.int .i64 act.kind, .int .i64 act.n, .slice ba' act.bytes.length bc, .slice ka' act.keep.length kc'] 39)) wr.heap.size 39 #[.int .i64 act.kind, .int .i64 act.n, .slice ba' act.bytes.length bc, .slice ka' act.keep.length kc'] := Blk.new _ _ _
                  have hb1 := HB.out.upd ((Upd.refl (fun _ => False) wr).alloc (.cells #[.int .i64 act.kind, .int .i64 act.n, .slice ba' act.bytes.length bc, .slice ka' act.keep.length kc'] 39)) (fun _ _ h => h)
                  obtain ⟨nb, hnbe⟩ : ∃ nb, nb = wr.heap.size := ⟨_, rfl⟩
                  rw [← hnbe] at hnb ⊢
                  generalize (wr.alloc (.cells #[.int .i64 act.kind, .int .i64 act.n, .slice ba' act.bytes.length bc, .slice ka' act.keep.length kc'] 39)) = W0 at hup1 hnb hb1 ⊢
                  have f0 : ∀ W, Upd (fun _ => False) W0 W → W.cell? ⟨nb, 0, none⟩ = some (.int .i64 act.kind) := fun W hW => (hnb.upd hW (fun h => h)).cell 0
                  have f1 : ∀ W, Upd (fun _ => False) W0 W → W.cell? ⟨nb, 1, none⟩ = some (.int .i64 act.n) := fun W hW => (hnb.upd hW (fun h => h)).cell 1
                  have f2 : ∀ W, Upd (fun _ => False) W0 W → W.cell? ⟨nb, 2, none⟩ = some (.slice ba' act.bytes.length bc) := fun W hW => (hnb.upd hW (fun h => h)).cell 2
                  have c3 : ∀ W, Upd (fun _ => False) W0 W → (convert 33 9 v3).run Tryd.prog W = .ok (.string (bs NOW)) W := fun W hW => str_of ((HV3b.out.upd hup1).upd hW)
                  have HUP5 := Lib.hid hup1
                  have HB5 := Lib.hid hb1
                  clear hnb hup1 hb1 hnbe
                  refine wp_region_plan (by kernel_rfl) (Upd (fun _ => False) W0) [(0, true), (1, true), (2, true), (3, true), (4, true), (5, true), (6, true), (7, true), (8, true), (9, true), (10, true), (11, true), (12, true), (13, true), (14, true), (15, true), (16, true), (17, true), (18, true), (19, true), (20, true), (21, true), (22, true), (24, true), (25, true), (27, true), (28, true), (29, true), (30, true), (23, false), (26, false), (31, false), (32, false), (33, true), (34, true), (35, true), (36, true)] (by kernel_rfl) (by kernel_rfl) (fun _ _ _ _ _ h => h) ((Upd.refl _ W0).drew) ?_
                  have hS : Upd (fun _ => False) W0 W0.drew := (Upd.refl _ W0).drew
                  rw [put_none]
                  generalize hfr : (Act.mk _ _) = a0
                  have hsz : a0.tmps.size = 181 := by rw [← hfr]; rfl
                  have e22 : a0.eval (.tmp 22) = .bool x := by rw [← hfr]; rfl
                  have e24 : a0.eval (.tmp 24) = .pointer (some ⟨nb, 0, none⟩) := by rw [← hfr]; rfl
                  have e13 : a0.eval (.tmp 13) = .int .i64 t := by rw [← hfr]; rfl
                  have e18 : a0.eval (.tmp 18) = v3 := by rw [← hfr]; rfl
                  cases x with
                  | true =>
                    refine plan_held (.bool true) rfl (wanted_none rfl) (fun W hW => exec_move (.tmp 22) rfl (by simp [ev_put, sz_put, hsz, e22])) ?_
                    refine plan_held (.bool true) rfl (wanted_none rfl) (fun W hW => exec_move (.tmp 133) rfl (by simp [ev_put, sz_put, hsz, e22])) ?_
                    refine plan_skip rfl (wanted_of (b := true) rfl rfl (by simp [sz_put, hsz]) (by simp [ev_put, sz_put, hsz, e22]) rfl) ?_
                    refine plan_skip rfl (wanted_of (b := true) rfl rfl (by simp [sz_put, hsz]) (by simp [ev_put, sz_put, hsz, e22]) rfl) ?_
                    refine plan_skip rfl (wanted_of (b := true) rfl rfl (by simp [sz_put, hsz]) (by simp [ev_put, sz_put, hsz, e22]) rfl) ?_
                    refine plan_skip rfl (wanted_of (b := true) rfl rfl (by simp [sz_put, hsz]) (by simp [ev_put, sz_put, hsz, e22]) rfl) ?_
                    refine plan_skip rfl (wanted_undef rfl rfl (by simp [sz_put, hsz]) (by simp [ev_put, sz_put, hsz, e22])) ?_
                    refine plan_skip rfl (wanted_undef rfl rfl (by simp [sz_put, hsz]) (by simp [ev_put, sz_put, hsz, e22])) ?_
                    refine plan_skip rfl (wanted_undef rfl rfl (by simp [sz_put, hsz]) (by simp [ev_put, sz_put, hsz, e22])) ?_
                    refine plan_skip rfl (wanted_undef rfl rfl (by simp [sz_put, hsz]) (by simp [ev_put, sz_put, hsz, e22])) ?_
                    refine plan_skip rfl (wanted_undef rfl rfl (by simp [sz_put, hsz]) (by simp [ev_put, sz_put, hsz, e22])) ?_
                    refine plan_skip rfl (wanted_undef rfl rfl (by simp [sz_put, hsz]) (by simp [ev_put, sz_put, hsz, e22])) ?_
                    refine plan_skip rfl (wanted_undef rfl rfl (by simp [sz_put, hsz]) (by simp [ev_put, sz_put, hsz, e22])) ?_
                    refine plan_skip rfl (wanted_of (b := true) rfl rfl (by simp [sz_put, hsz]) (by simp [ev_put, sz_put, hsz, e22]) rfl) ?_
                    refine plan_skip rfl (wanted_of (b := true) rfl rfl (by simp [sz_put, hsz]) (by simp [ev_put, sz_put, hsz, e22]) rfl) ?_
                    refine plan_skip rfl (wanted_undef rfl rfl (by simp [sz_put, hsz]) (by simp [ev_put, sz_put, hsz, e22])) ?_
                    refine plan_skip rfl (wanted_undef rfl rfl (by simp [sz_put, hsz]) (by simp [ev_put, sz_put, hsz, e22])) ?_
                    refine plan_skip rfl (wanted_undef rfl rfl (by simp [sz_put, hsz]) (by simp [ev_put, sz_put, hsz, e22])) ?_
                    refine plan_skip rfl (wanted_undef rfl rfl (by simp [sz_put, hsz]) (by simp [ev_put, sz_put, hsz, e22])) ?_
                    refine plan_skip rfl (wanted_of (b := true) rfl rfl (by simp [sz_put, hsz]) (by simp [ev_put, sz_put, hsz, e22]) rfl) ?_
                    refine plan_skip rfl (wanted_of (b := true) rfl rfl (by simp [sz_put, hsz]) (by simp [ev_put, sz_put, hsz, e22]) rfl) ?_
                    refine plan_skip rfl (wanted_undef rfl rfl (by simp [sz_put, hsz]) (by simp [ev_put, sz_put, hsz, e22])) ?_
                    refine plan_skip rfl (wanted_undef rfl rfl (by simp [sz_put, hsz]) (by simp [ev_put, sz_put, hsz, e22])) ?_
                    refine plan_skip rfl (wanted_undef rfl rfl (by simp [sz_put, hsz]) (by simp [ev_put, sz_put, hsz, e22])) ?_
                    refine plan_skip rfl (wanted_undef rfl rfl (by simp [sz_put, hsz]) (by simp [ev_put, sz_put, hsz, e22])) ?_
                    refine plan_skip rfl (wanted_undef rfl rfl (by simp [sz_put, hsz]) (by simp [ev_put, sz_put, hsz, e22])) ?_
                    refine plan_skip rfl (wanted_undef rfl rfl (by simp [sz_put, hsz]) (by simp [ev_put, sz_put, hsz, e22])) ?_
                    refine plan_skip rfl (wanted_undef rfl rfl (by simp [sz_put, hsz]) (by simp [ev_put, sz_put, hsz, e22])) ?_
                    refine plan_skip rfl (wanted_undef rfl rfl (by simp [sz_put, hsz]) (by simp [ev_put, sz_put, hsz, e22])) ?_
                    refine plan_one_skip rfl (wanted_undef rfl rfl (by simp [sz_put, hsz]) (by simp [ev_put, sz_put, hsz, e22])) hS ?_
                    refine plan_one_skip rfl (wanted_undef rfl rfl (by simp [sz_put, hsz]) (by simp [ev_put, sz_put, hsz, e22])) hS ?_
                    refine plan_one_skip rfl (wanted_undef rfl rfl (by simp [sz_put, hsz]) (by simp [ev_put, sz_put, hsz, e22])) hS ?_
                    refine plan_one_skip rfl (wanted_undef rfl rfl (by simp [sz_put, hsz]) (by simp [ev_put, sz_put, hsz, e22])) hS ?_
                    refine plan_skip rfl (wanted_undef rfl rfl (by simp [sz_put, hsz]) (by simp [ev_put, sz_put, hsz, e22])) ?_
                    refine plan_skip rfl (wanted_of (b := true) rfl rfl (by simp [sz_put, hsz]) (by simp [ev_put, sz_put, hsz, e22]) rfl) ?_
                    refine plan_held (.bool true) rfl (wanted_none rfl) (fun W hW => exec_pick (.tmp 134) (.const (.bool true)) (.tmp 167) rfl (b := true) (by simp [ev_put, sz_put, hsz, e22]) (by simp [ev_put, sz_put, hsz, ev_const, e22])) ?_
                    refine plan_held (.bool true) rfl (wanted_none rfl) (fun W hW => exec_assign (.tmp 168) rfl (by simp [ev_put, sz_put, hsz, e22])) ?_
                    refine plan_done ?_
                    rw [← hfr]
                    simp only [Act.put, List.setIfInBounds_toArray, List.set_cons_zero, List.set_cons_succ]
                    clear hS hfr hsz e22 e24 e13 e18 f0 f1 f2 c3
                    go_wp2_with fail
                    go_roundg (j - (u + 1))
                    case measure => omega
                    case rel =>
                      refine ⟨u + 1, true, by go_num, rfl, by omega, ?_, HUP5.out.drew⟩
                      rw [HTK.out]
                      constructor
                      · intro _
                        rcases HX.out.1 trivial with h | ⟨a, ha, hw⟩
                        · exact .inl h
                        · exact .inr ⟨a, List.mem_append_left _ ha, hw⟩
                      · intro _; rfl
                  | false =>
                    have hno : ¬ Wrote t NOW act → (false = true ↔ NOW = mget D.safe t ∨ ∃ a ∈ l.take (u + 1), Wrote t NOW a) := by
                      intro hnw
                      rw [HTK.out]
                      constructor
                      · intro h; cases h
                      · rintro (h | ⟨a, ha, hw⟩)
                        · exact HX.out.2 (.inl h)
                        · rcases List.mem_append.1 ha with ha | ha
                          · exact HX.out.2 (.inr ⟨a, ha, hw⟩)
                          · simp at ha
                            subst ha
                            exact absurd hw hnw
                    have hc10 : ∀ W : World, (convert 28 3 (.int .u64 ((IntKind.u64.wrap act.n).tmod 5))).run Tryd.prog W = .ok (.int .i64 (idx5 act.n)) W := conv5 act.n
                    by_cases hkind : act.kind = 1
                    · have HNW := Lib.hid (show ¬ Wrote t NOW act from fun h => h.1 hkind)
                      refine plan_held (.bool false) rfl (wanted_none rfl) (fun W hW => exec_move (.tmp 22) rfl (by simp [ev_put, sz_put, hsz, e22])) ?_
                      refine plan_held (.bool false) rfl (wanted_none rfl) (fun W hW => exec_move (.tmp 133) rfl (by simp [ev_put, sz_put, hsz, e22])) ?_
                      refine plan_held (.pointer (some ⟨nb, 0, none⟩)) rfl (wanted_of (b := false) rfl rfl (by simp [sz_put, hsz]) (by simp [ev_put, sz_put, hsz, e22]) rfl) (fun W hW => exec_fieldAddr 39 (.tmp 24) 0 rfl (by simp [ev_put, sz_put, hsz, e24]) (fa39 nb W).1) ?_
                      refine plan_held (.int .i64 act.kind) rfl (wanted_of (b := false) rfl rfl (by simp [sz_put, hsz]) (by simp [ev_put, sz_put, hsz, e22]) rfl) (fun W hW => by have c := f0 W hW; simp [execOp, ev_put, sz_put, hsz, ev_const, e13, e18, e22, e24, go_sem, c]) ?_
                      refine plan_held (.bool false) rfl (wanted_of (b := false) rfl rfl (by simp [sz_put, hsz]) (by simp [ev_put, sz_put, hsz, e22]) rfl) (fun W hW => by simp [execOp, ev_put, sz_put, hsz, ev_const, e13, e18, e22, e24, go_sem, hkind]) ?_
                      refine plan_held (.bool false) rfl (wanted_of (b := false) rfl rfl (by simp [sz_put, hsz]) (by simp [ev_put, sz_put, hsz, e22]) rfl) (fun W hW => exec_move (.tmp 137) rfl (by simp [ev_put, sz_put, hsz, e22])) ?_
                      refine plan_skip rfl (wanted_of (b := false) rfl rfl (by simp [sz_put, hsz]) (by simp [ev_put, sz_put, hsz, e22]) rfl) ?_
                      refine plan_skip rfl (wanted_of (b := false) rfl rfl (by simp [sz_put, hsz]) (by simp [ev_put, sz_put, hsz, e22]) rfl) ?_
                      refine plan_skip rfl (wanted_of (b := false) rfl rfl (by simp [sz_put, hsz]) (by simp [ev_put, sz_put, hsz, e22]) rfl) ?_
                      refine plan_skip rfl (wanted_of (b := false) rfl rfl (by simp [sz_put, hsz]) (by simp [ev_put, sz_put, hsz, e22]) rfl) ?_
                      refine plan_skip rfl (wanted_of (b := false) rfl rfl (by simp [sz_put, hsz]) (by simp [ev_put, sz_put, hsz, e22]) rfl) ?_
                      refine plan_skip rfl (wanted_of (b := false) rfl rfl (by simp [sz_put, hsz]) (by simp [ev_put, sz_put, hsz, e22]) rfl) ?_
                      refine plan_skip rfl (wanted_of (b := false) rfl rfl (by simp [sz_put, hsz]) (by simp [ev_put, sz_put, hsz, e22]) rfl) ?_
                      refine plan_held (.bool false) rfl (wanted_of (b := false) rfl rfl (by simp [sz_put, hsz]) (by simp [ev_put, sz_put, hsz, e22]) rfl) (fun W hW => exec_pick (.tmp 138) (.tmp 145) (.const (.bool false)) rfl (b := false) (by simp [ev_put, sz_put, hsz, e22]) (by simp [ev_put, sz_put, hsz, ev_const, e22])) ?_
                      refine plan_held (.bool false) rfl (wanted_of (b := false) rfl rfl (by simp [sz_put, hsz]) (by simp [ev_put, sz_put, hsz, e22]) rfl) (fun W hW => exec_move (.tmp 146) rfl (by simp [ev_put, sz_put, hsz, e22])) ?_
                      refine plan_skip rfl (wanted_of (b := false) rfl rfl (by simp [sz_put, hsz]) (by simp [ev_put, sz_put, hsz, e22]) rfl) ?_
                      refine plan_skip rfl (wanted_of (b := false) rfl rfl (by simp [sz_put, hsz]) (by simp [ev_put, sz_put, hsz, e22]) rfl) ?_
                      refine plan_skip rfl (wanted_of (b := false) rfl rfl (by simp [sz_put, hsz]) (by simp [ev_put, sz_put, hsz, e22]) rfl) ?_
                      refine plan_skip rfl (wanted_of (b := false) rfl rfl (by simp [sz_put, hsz]) (by simp [ev_put, sz_put, hsz, e22]) rfl) ?_
                      refine plan_held (.bool false) rfl (wanted_of (b := false) rfl rfl (by simp [sz_put, hsz]) (by simp [ev_put, sz_put, hsz, e22]) rfl) (fun W hW => exec_pick (.tmp 147) (.tmp 151) (.const (.bool false)) rfl (b := false) (by simp [ev_put, sz_put, hsz, e22]) (by simp [ev_put, sz_put, hsz, ev_const, e22])) ?_
                      refine plan_held (.bool false) rfl (wanted_of (b := false) rfl rfl (by simp [sz_put, hsz]) (by simp [ev_put, sz_put, hsz, e22]) rfl) (fun W hW => exec_move (.tmp 152) rfl (by simp [ev_put, sz_put, hsz, e22])) ?_
                      refine plan_skip rfl (wanted_of (b := false) rfl rfl (by simp [sz_put, hsz]) (by simp [ev_put, sz_put, hsz, e22]) rfl) ?_
                      refine plan_skip rfl (wanted_of (b := false) rfl rfl (by simp [sz_put, hsz]) (by simp [ev_put, sz_put, hsz, e22]) rfl) ?_
                      refine plan_skip rfl (wanted_of (b := false) rfl rfl (by simp [sz_put, hsz]) (by simp [ev_put, sz_put, hsz, e22]) rfl) ?_
                      refine plan_skip rfl (wanted_of (b := false) rfl rfl (by simp [sz_put, hsz]) (by simp [ev_put, sz_put, hsz, e22]) rfl) ?_
                      refine plan_skip rfl (wanted_of (b := false) rfl rfl (by simp [sz_put, hsz]) (by simp [ev_put, sz_put, hsz, e22]) rfl) ?_
                      refine plan_skip rfl (wanted_of (b := false) rfl rfl (by simp [sz_put, hsz]) (by simp [ev_put, sz_put, hsz, e22]) rfl) ?_
                      refine plan_skip rfl (wanted_of (b := false) rfl rfl (by simp [sz_put, hsz]) (by simp [ev_put, sz_put, hsz, e22]) rfl) ?_
                      refine plan_skip rfl (wanted_of (b := false) rfl rfl (by simp [sz_put, hsz]) (by simp [ev_put, sz_put, hsz, e22]) rfl) ?_
                      refine plan_one_skip rfl (wanted_of (b := false) rfl rfl (by simp [sz_put, hsz]) (by simp [ev_put, sz_put, hsz, e22]) rfl) hS ?_
                      refine plan_one_skip rfl (wanted_of (b := false) rfl rfl (by simp [sz_put, hsz]) (by simp [ev_put, sz_put, hsz, e22]) rfl) hS ?_
                      refine plan_one_skip rfl (wanted_of (b := false) rfl rfl (by simp [sz_put, hsz]) (by simp [ev_put, sz_put, hsz, e22]) rfl) hS ?_
                      refine plan_one_skip rfl (wanted_of (b := false) rfl rfl (by simp [sz_put, hsz]) (by simp [ev_put, sz_put, hsz, e22]) rfl) hS ?_
                      refine plan_skip rfl (wanted_of (b := false) rfl rfl (by simp [sz_put, hsz]) (by simp [ev_put, sz_put, hsz, e22]) rfl) ?_
                      refine plan_held (.bool false) rfl (wanted_of (b := false) rfl rfl (by simp [sz_put, hsz]) (by simp [ev_put, sz_put, hsz, e22]) rfl) (fun W hW => exec_pick (.tmp 153) (.tmp 166) (.const (.bool false)) rfl (b := false) (by simp [ev_put, sz_put, hsz, e22]) (by simp [ev_put, sz_put, hsz, ev_const, e22])) ?_
                      refine plan_held (.bool false) rfl (wanted_none rfl) (fun W hW => exec_pick (.tmp 134) (.const (.bool true)) (.tmp 167) rfl (b := false) (by simp [ev_put, sz_put, hsz, e22]) (by simp [ev_put, sz_put, hsz, ev_const, e22])) ?_
                      refine plan_held (.bool false) rfl (wanted_none rfl) (fun W hW => exec_assign (.tmp 168) rfl (by simp [ev_put, sz_put, hsz, e22])) ?_
                      refine plan_done ?_
                      rw [← hfr]
                      simp only [Act.put, List.setIfInBounds_toArray, List.set_cons_zero, List.set_cons_succ]
                      clear hS hfr hsz e22 e24 e13 e18 f0 f1 f2 c3 hc10
                      go_wp2_with fail
                      go_roundg (j - (u + 1))
                      case measure => omega
                      case rel => exact ⟨u + 1, false, by go_num, rfl, by omega, hno HNW.out, HUP5.out.drew⟩
                    · by_cases heq : idx5 act.n = t
                      · by_cases hl32 : act.bytes.length ≤ 32
                        · have hlen : (act.bytes.length : Int) ≤ 32 := by omega
                          have hsub : IntKind.i64.wrap (32 - (act.bytes.length : Int)) = 32 - act.bytes.length := by rw [IntKind.wrap_i64]; omega
                          refine plan_held (.bool false) rfl (wanted_none rfl) (fun W hW => exec_move (.tmp 22) rfl (by simp [ev_put, sz_put, hsz, e22])) ?_
                          refine plan_held (.bool false) rfl (wanted_none rfl) (fun W hW => exec_move (.tmp 133) rfl (by simp [ev_put, sz_put, hsz, e22])) ?_
                          refine plan_held (.pointer (some ⟨nb, 0, none⟩)) rfl (wanted_of (b := false) rfl rfl (by simp [sz_put, hsz]) (by simp [ev_put, sz_put, hsz, e22]) rfl) (fun W hW => exec_fieldAddr 39 (.tmp 24) 0 rfl (by simp [ev_put, sz_put, hsz, e24]) (fa39 nb W).1) ?_
                          refine plan_held (.int .i64 act.kind) rfl (wanted_of (b := false) rfl rfl (by simp [sz_put, hsz]) (by simp [ev_put, sz_put, hsz, e22]) rfl) (fun W hW => by have c := f0 W hW; simp [execOp, ev_put, sz_put, hsz, ev_const, e13, e18, e22, e24, go_sem, c]) ?_
                          refine plan_held (.bool true) rfl (wanted_of (b := false) rfl rfl (by simp [sz_put, hsz]) (by simp [ev_put, sz_put, hsz, e22]) rfl) (fun W hW => by simp [execOp, ev_put, sz_put, hsz, ev_const, e13, e18, e22, e24, go_sem, hkind]) ?_
                          refine plan_held (.bool true) rfl (wanted_of (b := false) rfl rfl (by simp [sz_put, hsz]) (by simp [ev_put, sz_put, hsz, e22]) rfl) (fun W hW => exec_move (.tmp 137) rfl (by simp [ev_put, sz_put, hsz, e22])) ?_
                          refine plan_held (.pointer (some ⟨nb, 1, none⟩)) rfl (wanted_of (b := true) rfl rfl (by simp [sz_put, hsz]) (by simp [ev_put, sz_put, hsz, e22]) rfl) (fun W hW => exec_fieldAddr 39 (.tmp 24) 1 rfl (by simp [ev_put, sz_put, hsz, e24]) (fa39 nb W).2.1) ?_
                          refine plan_held (.int .i64 act.n) rfl (wanted_of (b := true) rfl rfl (by simp [sz_put, hsz]) (by simp [ev_put, sz_put, hsz, e22]) rfl) (fun W hW => by have c := f1 W hW; simp [execOp, ev_put, sz_put, hsz, ev_const, e13, e18, e22, e24, go_sem, c]) ?_
                          refine plan_held (.int .u64 (IntKind.u64.wrap act.n)) rfl (wanted_of (b := true) rfl rfl (by simp [sz_put, hsz]) (by simp [ev_put, sz_put, hsz, e22]) rfl) (fun W hW => by simp [execOp, ev_put, sz_put, hsz, ev_const, e13, e18, e22, e24, go_sem]) ?_
                          refine plan_held (.int .u64 ((IntKind.u64.wrap act.n).tmod 5)) rfl (wanted_of (b := true) rfl rfl (by simp [sz_put, hsz]) (by simp [ev_put, sz_put, hsz, e22]) rfl) (fun W hW => by simp [execOp, ev_put, sz_put, hsz, ev_const, e13, e18, e22, e24, go_sem]) ?_
                          refine plan_held (.int .i64 (idx5 act.n)) rfl (wanted_of (b := true) rfl rfl (by simp [sz_put, hsz]) (by simp [ev_put, sz_put, hsz, e22]) rfl) (fun W hW => exec_conv 28 3 (.tmp 142) rfl (by simp [ev_put, sz_put, hsz, e22]) (hc10 W)) ?_
                          refine plan_held (.int .i64 t) rfl (wanted_of (b := true) rfl rfl (by simp [sz_put, hsz]) (by simp [ev_put, sz_put, hsz, e22]) rfl) (fun W hW => exec_move (.tmp 13) rfl (by simp [ev_put, sz_put, hsz, e13])) ?_
                          refine plan_held (.bool true) rfl (wanted_of (b := true) rfl rfl (by simp [sz_put, hsz]) (by simp [ev_put, sz_put, hsz, e22]) rfl) (fun W hW => by simp [execOp, ev_put, sz_put, hsz, ev_const, e13, e18, e22, e24, go_sem, heq]) ?_
                          refine plan_held (.bool true) rfl (wanted_of (b := false) rfl rfl (by simp [sz_put, hsz]) (by simp [ev_put, sz_put, hsz, e22]) rfl) (fun W hW => exec_pick (.tmp 138) (.tmp 145) (.const (.bool false)) rfl (b := true) (by simp [ev_put, sz_put, hsz, e22]) (by simp [ev_put, sz_put, hsz, ev_const, e22])) ?_
                          refine plan_held (.bool true) rfl (wanted_of (b := false) rfl rfl (by simp [sz_put, hsz]) (by simp [ev_put, sz_put, hsz, e22]) rfl) (fun W hW => exec_move (.tmp 146) rfl (by simp [ev_put, sz_put, hsz, e22])) ?_
                          refine plan_held (.pointer (some ⟨nb, 2, none⟩)) rfl (wanted_of (b := true) rfl rfl (by simp [sz_put, hsz]) (by simp [ev_put, sz_put, hsz, e22]) rfl) (fun W hW => exec_fieldAddr 39 (.tmp 24) 2 rfl (by simp [ev_put, sz_put, hsz, e24]) (fa39 nb W).2.2) ?_
                          refine plan_held (.slice ba' act.bytes.length bc) rfl (wanted_of (b := true) rfl rfl (by simp [sz_put, hsz]) (by simp [ev_put, sz_put, hsz, e22]) rfl) (fun W hW => by have c := f2 W hW; simp [execOp, ev_put, sz_put, hsz, ev_const, e13, e18, e22, e24, go_sem, c]) ?_
                          refine plan_held (.int .i64 act.bytes.length) rfl (wanted_of (b := true) rfl rfl (by simp [sz_put, hsz]) (by simp [ev_put, sz_put, hsz, e22]) rfl) (fun W hW => by simp [execOp, ev_put, sz_put, hsz, ev_const, e13, e18, e22, e24, go_sem]) ?_
                          refine plan_held (.bool true) rfl (wanted_of (b := true) rfl rfl (by simp [sz_put, hsz]) (by simp [ev_put, sz_put, hsz, e22]) rfl) (fun W hW => by simp [execOp, ev_put, sz_put, hsz, ev_const, e13, e18, e22, e24, go_sem, hlen]) ?_
                          refine plan_held (.bool true) rfl (wanted_of (b := false) rfl rfl (by simp [sz_put, hsz]) (by simp [ev_put, sz_put, hsz, e22]) rfl) (fun W hW => exec_pick (.tmp 147) (.tmp 151) (.const (.bool false)) rfl (b := true) (by simp [ev_put, sz_put, hsz, e22]) (by simp [ev_put, sz_put, hsz, ev_const, e22])) ?_
                          refine plan_held (.bool true) rfl (wanted_of (b := false) rfl rfl (by simp [sz_put, hsz]) (by simp [ev_put, sz_put, hsz, e22]) rfl) (fun W hW => exec_move (.tmp 152) rfl (by simp [ev_put, sz_put, hsz, e22])) ?_
                          refine plan_held (v3) rfl (wanted_of (b := true) rfl rfl (by simp [sz_put, hsz]) (by simp [ev_put, sz_put, hsz, e22]) rfl) (fun W hW => exec_move (.tmp 18) rfl (by simp [ev_put, sz_put, hsz, e18])) ?_
                          refine plan_held (.string (bs NOW)) rfl (wanted_of (b := true) rfl rfl (by simp [sz_put, hsz]) (by simp [ev_put, sz_put, hsz, e22]) rfl) (fun W hW => exec_conv 33 9 (.tmp 154) rfl (by simp [ev_put, sz_put, hsz, e22]) (c3 W hW)) ?_
                          refine plan_held (.pointer (some ⟨nb, 2, none⟩)) rfl (wanted_of (b := true) rfl rfl (by simp [sz_put, hsz]) (by simp [ev_put, sz_put, hsz, e22]) rfl) (fun W hW => exec_fieldAddr 39 (.tmp 24) 2 rfl (by simp [ev_put, sz_put, hsz, e24]) (fa39 nb W).2.2) ?_
                          refine plan_held (.slice ba' act.bytes.length bc) rfl (wanted_of (b := true) rfl rfl (by simp [sz_put, hsz]) (by simp [ev_put, sz_put, hsz, e22]) rfl) (fun W hW => by have c := f2 W hW; simp [execOp, ev_put, sz_put, hsz, ev_const, e13, e18, e22, e24, go_sem, c]) ?_
                          refine plan_held (.pointer (some ⟨nb, 2, none⟩)) rfl (wanted_of (b := true) rfl rfl (by simp [sz_put, hsz]) (by simp [ev_put, sz_put, hsz, e22]) rfl) (fun W hW => exec_fieldAddr 39 (.tmp 24) 2 rfl (by simp [ev_put, sz_put, hsz, e24]) (fa39 nb W).2.2) ?_
                          refine plan_held (.slice ba' act.bytes.length bc) rfl (wanted_of (b := true) rfl rfl (by simp [sz_put, hsz]) (by simp [ev_put, sz_put, hsz, e22]) rfl) (fun W hW => by have c := f2 W hW; simp [execOp, ev_put, sz_put, hsz, ev_const, e13, e18, e22, e24, go_sem, c]) ?_
                          refine plan_held (.int .i64 act.bytes.length) rfl (wanted_of (b := true) rfl rfl (by simp [sz_put, hsz]) (by simp [ev_put, sz_put, hsz, e22]) rfl) (fun W hW => by simp [execOp, ev_put, sz_put, hsz, ev_const, e13, e18, e22, e24, go_sem]) ?_
                          refine plan_held (.int .i64 (32 - act.bytes.length)) rfl (wanted_of (b := true) rfl rfl (by simp [sz_put, hsz]) (by simp [ev_put, sz_put, hsz, e22]) rfl) (fun W hW => by simp [execOp, ev_put, sz_put, hsz, ev_const, e13, e18, e22, e24, go_sem, hsub]) ?_
                          obtain ⟨v5, w5, v6, w6, hr5, hr6, hu5, hu6, hcv⟩ := pad_append W0.drew act.bytes ba' bc (HB5.out.upd (Upd.refl (fun _ => False) W0).drew (fun _ _ h => h)) (fun h => HBN.out act.bytes.length bc (by rw [h])) hl32
                          have hS1 : Upd (fun _ => False) W0 (W0.drew.alloc (.cells #[] 5)) := hS.alloc _
                          have hS5 : Upd (fun _ => False) W0 w5 := hS.then hu5 (fun _ _ h => h)
                          have hS6 : Upd (fun _ => False) W0 w6 := hS.then hu6 (fun _ _ h => h)
                          refine plan_run rfl (wanted_of (b := true) rfl rfl (by simp [sz_put, hsz]) (by simp [ev_put, sz_put, hsz, e22]) rfl) (exec_buildSlice 33 0 #[] rfl #[] (by simp) (build0 W0.drew)) hS1 ?_
                          refine plan_run rfl (wanted_of (b := true) rfl rfl (by simp [sz_put, hsz]) (by simp [ev_put, sz_put, hsz, e22]) rfl) (exec_app (.tmp 156) (.tmp 158) 33 33 rfl (by simp [ev_put, sz_put, hsz, e22]) (by simp [ev_put, sz_put, hsz, e22]) hr5) hS5 ?_
                          refine plan_run rfl (wanted_of (b := true) rfl rfl (by simp [sz_put, hsz]) (by simp [ev_put, sz_put, hsz, e22]) rfl) (exec_app (.tmp 159) (.tmp 163) 33 3 rfl (by simp [ev_put, sz_put, hsz, e22]) (by simp [ev_put, sz_put, hsz, e22]) hr6) hS6 ?_
                          refine plan_run rfl (wanted_of (b := true) rfl rfl (by simp [sz_put, hsz]) (by simp [ev_put, sz_put, hsz, e22]) rfl) (exec_conv 33 9 (.tmp 164) rfl (by simp [ev_put, sz_put, hsz, e22]) hcv) hS6 ?_
                          obtain ⟨y, hy⟩ : ∃ y, y = ((bs NOW).toList == (bs (pad32 act.bytes)).toList) := ⟨_, rfl⟩
                          have hyp : y = true ↔ NOW = pad32 act.bytes := by rw [hy]; simp [ByteArray.toList_eq, bs]
                          refine plan_held (.bool y) rfl (wanted_of (b := true) rfl rfl (by simp [sz_put, hsz]) (by simp [ev_put, sz_put, hsz, e22]) rfl) (fun W hW => by simp [execOp, ev_put, sz_put, hsz, ev_const, go_sem, hy]) ?_
                          refine plan_held (.bool y) rfl (wanted_of (b := false) rfl rfl (by simp [sz_put, hsz]) (by simp [ev_put, sz_put, hsz, e22]) rfl) (fun W hW => exec_pick (.tmp 153) (.tmp 166) (.const (.bool false)) rfl (b := true) (by simp [ev_put, sz_put, hsz, e22]) (by simp [ev_put, sz_put, hsz, ev_const, e22])) ?_
                          refine plan_held (.bool y) rfl (wanted_none rfl) (fun W hW => exec_pick (.tmp 134) (.const (.bool true)) (.tmp 167) rfl (b := false) (by simp [ev_put, sz_put, hsz, e22]) (by simp [ev_put, sz_put, hsz, ev_const, e22])) ?_
                          refine plan_held (.bool y) rfl (wanted_none rfl) (fun W hW => exec_assign (.tmp 168) rfl (by simp [ev_put, sz_put, hsz, e22])) ?_
                          refine plan_done ?_
                          rw [← hfr]
                          simp only [Act.put, List.setIfInBounds_toArray, List.set_cons_zero, List.set_cons_succ]
                          have HS6 := Lib.hid hS6
                          have HYP := Lib.hid hyp
                          clear hS hfr hsz e22 e24 e13 e18 f0 f1 f2 c3 hc10 hS1 hS5 hS6 hu5 hu6 hcv hr5 hr6 hy hyp
                          go_wp2_with fail
                          go_roundg (j - (u + 1))
                          case measure => omega
                          case rel =>
                            refine ⟨u + 1, y, by go_num, rfl, by omega, ?_, HUP5.out.then HS6.out (fun _ _ h => h)⟩
                            rw [HTK.out]
                            constructor
                            · intro h
                              exact .inr ⟨act, List.mem_append_right _ (by simp), hkind, heq, hl32, HYP.out.1 h⟩
                            · rintro (h | ⟨a, ha, hw⟩)
                              · exact absurd (HX.out.2 (.inl h)) (by simp)
                              · rcases List.mem_append.1 ha with ha | ha
                                · exact absurd (HX.out.2 (.inr ⟨a, ha, hw⟩)) (by simp)
                                · simp at ha
                                  subst ha
                                  exact HYP.out.2 hw.2.2.2
                        · have hlen : ¬ (act.bytes.length : Int) ≤ 32 := by omega
                          have HNW := Lib.hid (show ¬ Wrote t NOW act from fun h => hl32 h.2.2.1)
                          refine plan_held (.bool false) rfl (wanted_none rfl) (fun W hW => exec_move (.tmp 22) rfl (by simp [ev_put, sz_put, hsz, e22])) ?_
                          refine plan_held (.bool false) rfl (wanted_none rfl) (fun W hW => exec_move (.tmp 133) rfl (by simp [ev_put, sz_put, hsz, e22])) ?_
                          refine plan_held (.pointer (some ⟨nb, 0, none⟩)) rfl (wanted_of (b := false) rfl rfl (by simp [sz_put, hsz]) (by simp [ev_put, sz_put, hsz, e22]) rfl) (fun W hW => exec_fieldAddr 39 (.tmp 24) 0 rfl (by simp [ev_put, sz_put, hsz, e24]) (fa39 nb W).1) ?_
                          refine plan_held (.int .i64 act.kind) rfl (wanted_of (b := false) rfl rfl (by simp [sz_put, hsz]) (by simp [ev_put, sz_put, hsz, e22]) rfl) (fun W hW => by have c := f0 W hW; simp [execOp, ev_put, sz_put, hsz, ev_const, e13, e18, e22, e24, go_sem, c]) ?_
                          refine plan_held (.bool true) rfl (wanted_of (b := false) rfl rfl (by simp [sz_put, hsz]) (by simp [ev_put, sz_put, hsz, e22]) rfl) (fun W hW => by simp [execOp, ev_put, sz_put, hsz, ev_const, e13, e18, e22, e24, go_sem, hkind]) ?_
                          refine plan_held (.bool true) rfl (wanted_of (b := false) rfl rfl (by simp [sz_put, hsz]) (by simp [ev_put, sz_put, hsz, e22]) rfl) (fun W hW => exec_move (.tmp 137) rfl (by simp [ev_put, sz_put, hsz, e22])) ?_
                          refine plan_held (.pointer (some ⟨nb, 1, none⟩)) rfl (wanted_of (b := true) rfl rfl (by simp [sz_put, hsz]) (by simp [ev_put, sz_put, hsz, e22]) rfl) (fun W hW => exec_fieldAddr 39 (.tmp 24) 1 rfl (by simp [ev_put, sz_put, hsz, e24]) (fa39 nb W).2.1) ?_
                          refine plan_held (.int .i64 act.n) rfl (wanted_of (b := true) rfl rfl (by simp [sz_put, hsz]) (by simp [ev_put, sz_put, hsz, e22]) rfl) (fun W hW => by have c := f1 W hW; simp [execOp, ev_put, sz_put, hsz, ev_const, e13, e18, e22, e24, go_sem, c]) ?_
                          refine plan_held (.int .u64 (IntKind.u64.wrap act.n)) rfl (wanted_of (b := true) rfl rfl (by simp [sz_put, hsz]) (by simp [ev_put, sz_put, hsz, e22]) rfl) (fun W hW => by simp [execOp, ev_put, sz_put, hsz, ev_const, e13, e18, e22, e24, go_sem]) ?_
                          refine plan_held (.int .u64 ((IntKind.u64.wrap act.n).tmod 5)) rfl (wanted_of (b := true) rfl rfl (by simp [sz_put, hsz]) (by simp [ev_put, sz_put, hsz, e22]) rfl) (fun W hW => by simp [execOp, ev_put, sz_put, hsz, ev_const, e13, e18, e22, e24, go_sem]) ?_
                          refine plan_held (.int .i64 (idx5 act.n)) rfl (wanted_of (b := true) rfl rfl (by simp [sz_put, hsz]) (by simp [ev_put, sz_put, hsz, e22]) rfl) (fun W hW => exec_conv 28 3 (.tmp 142) rfl (by simp [ev_put, sz_put, hsz, e22]) (hc10 W)) ?_
                          refine plan_held (.int .i64 t) rfl (wanted_of (b := true) rfl rfl (by simp [sz_put, hsz]) (by simp [ev_put, sz_put, hsz, e22]) rfl) (fun W hW => exec_move (.tmp 13) rfl (by simp [ev_put, sz_put, hsz, e13])) ?_
                          refine plan_held (.bool true) rfl (wanted_of (b := true) rfl rfl (by simp [sz_put, hsz]) (by simp [ev_put, sz_put, hsz, e22]) rfl) (fun W hW => by simp [execOp, ev_put, sz_put, hsz, ev_const, e13, e18, e22, e24, go_sem, heq]) ?_
                          refine plan_held (.bool true) rfl (wanted_of (b := false) rfl rfl (by simp [sz_put, hsz]) (by simp [ev_put, sz_put, hsz, e22]) rfl) (fun W hW => exec_pick (.tmp 138) (.tmp 145) (.const (.bool false)) rfl (b := true) (by simp [ev_put, sz_put, hsz, e22]) (by simp [ev_put, sz_put, hsz, ev_const, e22])) ?_
                          refine plan_held (.bool true) rfl (wanted_of (b := false) rfl rfl (by simp [sz_put, hsz]) (by simp [ev_put, sz_put, hsz, e22]) rfl) (fun W hW => exec_move (.tmp 146) rfl (by simp [ev_put, sz_put, hsz, e22])) ?_
                          refine plan_held (.pointer (some ⟨nb, 2, none⟩)) rfl (wanted_of (b := true) rfl rfl (by simp [sz_put, hsz]) (by simp [ev_put, sz_put, hsz, e22]) rfl) (fun W hW => exec_fieldAddr 39 (.tmp 24) 2 rfl (by simp [ev_put, sz_put, hsz, e24]) (fa39 nb W).2.2) ?_
                          refine plan_held (.slice ba' act.bytes.length bc) rfl (wanted_of (b := true) rfl rfl (by simp [sz_put, hsz]) (by simp [ev_put, sz_put, hsz, e22]) rfl) (fun W hW => by have c := f2 W hW; simp [execOp, ev_put, sz_put, hsz, ev_const, e13, e18, e22, e24, go_sem, c]) ?_
                          refine plan_held (.int .i64 act.bytes.length) rfl (wanted_of (b := true) rfl rfl (by simp [sz_put, hsz]) (by simp [ev_put, sz_put, hsz, e22]) rfl) (fun W hW => by simp [execOp, ev_put, sz_put, hsz, ev_const, e13, e18, e22, e24, go_sem]) ?_
                          refine plan_held (.bool false) rfl (wanted_of (b := true) rfl rfl (by simp [sz_put, hsz]) (by simp [ev_put, sz_put, hsz, e22]) rfl) (fun W hW => by simp [execOp, ev_put, sz_put, hsz, ev_const, e13, e18, e22, e24, go_sem, hlen]) ?_
                          refine plan_held (.bool false) rfl (wanted_of (b := false) rfl rfl (by simp [sz_put, hsz]) (by simp [ev_put, sz_put, hsz, e22]) rfl) (fun W hW => exec_pick (.tmp 147) (.tmp 151) (.const (.bool false)) rfl (b := true) (by simp [ev_put, sz_put, hsz, e22]) (by simp [ev_put, sz_put, hsz, ev_const, e22])) ?_
                          refine plan_held (.bool false) rfl (wanted_of (b := false) rfl rfl (by simp [sz_put, hsz]) (by simp [ev_put, sz_put, hsz, e22]) rfl) (fun W hW => exec_move (.tmp 152) rfl (by simp [ev_put, sz_put, hsz, e22])) ?_
                          refine plan_skip rfl (wanted_of (b := false) rfl rfl (by simp [sz_put, hsz]) (by simp [ev_put, sz_put, hsz, e22]) rfl) ?_
                          refine plan_skip rfl (wanted_of (b := false) rfl rfl (by simp [sz_put, hsz]) (by simp [ev_put, sz_put, hsz, e22]) rfl) ?_
                          refine plan_skip rfl (wanted_of (b := false) rfl rfl (by simp [sz_put, hsz]) (by simp [ev_put, sz_put, hsz, e22]) rfl) ?_
                          refine plan_skip rfl (wanted_of (b := false) rfl rfl (by simp [sz_put, hsz]) (by simp [ev_put, sz_put, hsz, e22]) rfl) ?_
                          refine plan_skip rfl (wanted_of (b := false) rfl rfl (by simp [sz_put, hsz]) (by simp [ev_put, sz_put, hsz, e22]) rfl) ?_
                          refine plan_skip rfl (wanted_of (b := false) rfl rfl (by simp [sz_put, hsz]) (by simp [ev_put, sz_put, hsz, e22]) rfl) ?_
                          refine plan_skip rfl (wanted_of (b := false) rfl rfl (by simp [sz_put, hsz]) (by simp [ev_put, sz_put, hsz, e22]) rfl) ?_
                          refine plan_skip rfl (wanted_of (b := false) rfl rfl (by simp [sz_put, hsz]) (by simp [ev_put, sz_put, hsz, e22]) rfl) ?_
                          refine plan_one_skip rfl (wanted_of (b := false) rfl rfl (by simp [sz_put, hsz]) (by simp [ev_put, sz_put, hsz, e22]) rfl) hS ?_
                          refine plan_one_skip rfl (wanted_of (b := false) rfl rfl (by simp [sz_put, hsz]) (by simp [ev_put, sz_put, hsz, e22]) rfl) hS ?_
                          refine plan_one_skip rfl (wanted_of (b := false) rfl rfl (by simp [sz_put, hsz]) (by simp [ev_put, sz_put, hsz, e22]) rfl) hS ?_
                          refine plan_one_skip rfl (wanted_of (b := false) rfl rfl (by simp [sz_put, hsz]) (by simp [ev_put, sz_put, hsz, e22]) rfl) hS ?_
                          refine plan_skip rfl (wanted_of (b := false) rfl rfl (by simp [sz_put, hsz]) (by simp [ev_put, sz_put, hsz, e22]) rfl) ?_
                          refine plan_held (.bool false) rfl (wanted_of (b := false) rfl rfl (by simp [sz_put, hsz]) (by simp [ev_put, sz_put, hsz, e22]) rfl) (fun W hW => exec_pick (.tmp 153) (.tmp 166) (.const (.bool false)) rfl (b := false) (by simp [ev_put, sz_put, hsz, e22]) (by simp [ev_put, sz_put, hsz, ev_const, e22])) ?_
                          refine plan_held (.bool false) rfl (wanted_none rfl) (fun W hW => exec_pick (.tmp 134) (.const (.bool true)) (.tmp 167) rfl (b := false) (by simp [ev_put, sz_put, hsz, e22]) (by simp [ev_put, sz_put, hsz, ev_const, e22])) ?_
                          refine plan_held (.bool false) rfl (wanted_none rfl) (fun W hW => exec_assign (.tmp 168) rfl (by simp [ev_put, sz_put, hsz, e22])) ?_
                          refine plan_done ?_
                          rw [← hfr]
                          simp only [Act.put, List.setIfInBounds_toArray, List.set_cons_zero, List.set_cons_succ]
                          clear hS hfr hsz e22 e24 e13 e18 f0 f1 f2 c3 hc10
                          go_wp2_with fail
                          go_roundg (j - (u + 1))
                          case measure => omega
                          case rel => exact ⟨u + 1, false, by go_num, rfl, by omega, hno HNW.out, HUP5.out.drew⟩
                      · have HNW := Lib.hid (show ¬ Wrote t NOW act from fun h => heq h.2.1)
                        refine plan_held (.bool false) rfl (wanted_none rfl) (fun W hW => exec_move (.tmp 22) rfl (by simp [ev_put, sz_put, hsz, e22])) ?_
                        refine plan_held (.bool false) rfl (wanted_none rfl) (fun W hW => exec_move (.tmp 133) rfl (by simp [ev_put, sz_put, hsz, e22])) ?_
                        refine plan_held (.pointer (some ⟨nb, 0, none⟩)) rfl (wanted_of (b := false) rfl rfl (by simp [sz_put, hsz]) (by simp [ev_put, sz_put, hsz, e22]) rfl) (fun W hW => exec_fieldAddr 39 (.tmp 24) 0 rfl (by simp [ev_put, sz_put, hsz, e24]) (fa39 nb W).1) ?_
                        refine plan_held (.int .i64 act.kind) rfl (wanted_of (b := false) rfl rfl (by simp [sz_put, hsz]) (by simp [ev_put, sz_put, hsz, e22]) rfl) (fun W hW => by have c := f0 W hW; simp [execOp, ev_put, sz_put, hsz, ev_const, e13, e18, e22, e24, go_sem, c]) ?_
                        refine plan_held (.bool true) rfl (wanted_of (b := false) rfl rfl (by simp [sz_put, hsz]) (by simp [ev_put, sz_put, hsz, e22]) rfl) (fun W hW => by simp [execOp, ev_put, sz_put, hsz, ev_const, e13, e18, e22, e24, go_sem, hkind]) ?_
                        refine plan_held (.bool true) rfl (wanted_of (b := false) rfl rfl (by simp [sz_put, hsz]) (by simp [ev_put, sz_put, hsz, e22]) rfl) (fun W hW => exec_move (.tmp 137) rfl (by simp [ev_put, sz_put, hsz, e22])) ?_
                        refine plan_held (.pointer (some ⟨nb, 1, none⟩)) rfl (wanted_of (b := true) rfl rfl (by simp [sz_put, hsz]) (by simp [ev_put, sz_put, hsz, e22]) rfl) (fun W hW => exec_fieldAddr 39 (.tmp 24) 1 rfl (by simp [ev_put, sz_put, hsz, e24]) (fa39 nb W).2.1) ?_
                        refine plan_held (.int .i64 act.n) rfl (wanted_of (b := true) rfl rfl (by simp [sz_put, hsz]) (by simp [ev_put, sz_put, hsz, e22]) rfl) (fun W hW => by have c := f1 W hW; simp [execOp, ev_put, sz_put, hsz, ev_const, e13, e18, e22, e24, go_sem, c]) ?_
                        refine plan_held (.int .u64 (IntKind.u64.wrap act.n)) rfl (wanted_of (b := true) rfl rfl (by simp [sz_put, hsz]) (by simp [ev_put, sz_put, hsz, e22]) rfl) (fun W hW => by simp [execOp, ev_put, sz_put, hsz, ev_const, e13, e18, e22, e24, go_sem]) ?_
                        refine plan_held (.int .u64 ((IntKind.u64.wrap act.n).tmod 5)) rfl (wanted_of (b := true) rfl rfl (by simp [sz_put, hsz]) (by simp [ev_put, sz_put, hsz, e22]) rfl) (fun W hW => by simp [execOp, ev_put, sz_put, hsz, ev_const, e13, e18, e22, e24, go_sem]) ?_
                        refine plan_held (.int .i64 (idx5 act.n)) rfl (wanted_of (b := true) rfl rfl (by simp [sz_put, hsz]) (by simp [ev_put, sz_put, hsz, e22]) rfl) (fun W hW => exec_conv 28 3 (.tmp 142) rfl (by simp [ev_put, sz_put, hsz, e22]) (hc10 W)) ?_
                        refine plan_held (.int .i64 t) rfl (wanted_of (b := true) rfl rfl (by simp [sz_put, hsz]) (by simp [ev_put, sz_put, hsz, e22]) rfl) (fun W hW => exec_move (.tmp 13) rfl (by simp [ev_put, sz_put, hsz, e13])) ?_
                        refine plan_held (.bool false) rfl (wanted_of (b := true) rfl rfl (by simp [sz_put, hsz]) (by simp [ev_put, sz_put, hsz, e22]) rfl) (fun W hW => by simp [execOp, ev_put, sz_put, hsz, ev_const, e13, e18, e22, e24, go_sem, heq]) ?_
                        refine plan_held (.bool false) rfl (wanted_of (b := false) rfl rfl (by simp [sz_put, hsz]) (by simp [ev_put, sz_put, hsz, e22]) rfl) (fun W hW => exec_pick (.tmp 138) (.tmp 145) (.const (.bool false)) rfl (b := true) (by simp [ev_put, sz_put, hsz, e22]) (by simp [ev_put, sz_put, hsz, ev_const, e22])) ?_
                        refine plan_held (.bool false) rfl (wanted_of (b := false) rfl rfl (by simp [sz_put, hsz]) (by simp [ev_put, sz_put, hsz, e22]) rfl) (fun W hW => exec_move (.tmp 146) rfl (by simp [ev_put, sz_put, hsz, e22])) ?_
                        refine plan_skip rfl (wanted_of (b := false) rfl rfl (by simp [sz_put, hsz]) (by simp [ev_put, sz_put, hsz, e22]) rfl) ?_
                        refine plan_skip rfl (wanted_of (b := false) rfl rfl (by simp [sz_put, hsz]) (by simp [ev_put, sz_put, hsz, e22]) rfl) ?_
                        refine plan_skip rfl (wanted_of (b := false) rfl rfl (by simp [sz_put, hsz]) (by simp [ev_put, sz_put, hsz, e22]) rfl) ?_
                        refine plan_skip rfl (wanted_of (b := false) rfl rfl (by simp [sz_put, hsz]) (by simp [ev_put, sz_put, hsz, e22]) rfl) ?_
                        refine plan_held (.bool false) rfl (wanted_of (b := false) rfl rfl (by simp [sz_put, hsz]) (by simp [ev_put, sz_put, hsz, e22]) rfl) (fun W hW => exec_pick (.tmp 147) (.tmp 151) (.const (.bool false)) rfl (b := false) (by simp [ev_put, sz_put, hsz, e22]) (by simp [ev_put, sz_put, hsz, ev_const, e22])) ?_
                        refine plan_held (.bool false) rfl (wanted_of (b := false) rfl rfl (by simp [sz_put, hsz]) (by simp [ev_put, sz_put, hsz, e22]) rfl) (fun W hW => exec_move (.tmp 152) rfl (by simp [ev_put, sz_put, hsz, e22])) ?_
                        refine plan_skip rfl (wanted_of (b := false) rfl rfl (by simp [sz_put, hsz]) (by simp [ev_put, sz_put, hsz, e22]) rfl) ?_
                        refine plan_skip rfl (wanted_of (b := false) rfl rfl (by simp [sz_put, hsz]) (by simp [ev_put, sz_put, hsz, e22]) rfl) ?_
                        refine plan_skip rfl (wanted_of (b := false) rfl rfl (by simp [sz_put, hsz]) (by simp [ev_put, sz_put, hsz, e22]) rfl) ?_
                        refine plan_skip rfl (wanted_of (b := false) rfl rfl (by simp [sz_put, hsz]) (by simp [ev_put, sz_put, hsz, e22]) rfl) ?_
                        refine plan_skip rfl (wanted_of (b := false) rfl rfl (by simp [sz_put, hsz]) (by simp [ev_put, sz_put, hsz, e22]) rfl) ?_
                        refine plan_skip rfl (wanted_of (b := false) rfl rfl (by simp [sz_put, hsz]) (by simp [ev_put, sz_put, hsz, e22]) rfl) ?_
                        refine plan_skip rfl (wanted_of (b := false) rfl rfl (by simp [sz_put, hsz]) (by simp [ev_put, sz_put, hsz, e22]) rfl) ?_
                        refine plan_skip rfl (wanted_of (b := false) rfl rfl (by simp [sz_put, hsz]) (by simp [ev_put, sz_put, hsz, e22]) rfl) ?_
                        refine plan_one_skip rfl (wanted_of (b := false) rfl rfl (by simp [sz_put, hsz]) (by simp [ev_put, sz_put, hsz, e22]) rfl) hS ?_
                        refine plan_one_skip rfl (wanted_of (b := false) rfl rfl (by simp [sz_put, hsz]) (by simp [ev_put, sz_put, hsz, e22]) rfl) hS ?_
                        refine plan_one_skip rfl (wanted_of (b := false) rfl rfl (by simp [sz_put, hsz]) (by simp [ev_put, sz_put, hsz, e22]) rfl) hS ?_
                        refine plan_one_skip rfl (wanted_of (b := false) rfl rfl (by simp [sz_put, hsz]) (by simp [ev_put, sz_put, hsz, e22]) rfl) hS ?_
                        refine plan_skip rfl (wanted_of (b := false) rfl rfl (by simp [sz_put, hsz]) (by simp [ev_put, sz_put, hsz, e22]) rfl) ?_
                        refine plan_held (.bool false) rfl (wanted_of (b := false) rfl rfl (by simp [sz_put, hsz]) (by simp [ev_put, sz_put, hsz, e22]) rfl) (fun W hW => exec_pick (.tmp 153) (.tmp 166) (.const (.bool false)) rfl (b := false) (by simp [ev_put, sz_put, hsz, e22]) (by simp [ev_put, sz_put, hsz, ev_const, e22])) ?_
                        refine plan_held (.bool false) rfl (wanted_none rfl) (fun W hW => exec_pick (.tmp 134) (.const (.bool true)) (.tmp 167) rfl (b := false) (by simp [ev_put, sz_put, hsz, e22]) (by simp [ev_put, sz_put, hsz, ev_const, e22])) ?_
                        refine plan_held (.bool false) rfl (wanted_none rfl) (fun W hW => exec_assign (.tmp 168) rfl (by simp [ev_put, sz_put, hsz, e22])) ?_
                        refine plan_done ?_
                        rw [← hfr]
                        simp only [Act.put, List.setIfInBounds_toArray, List.set_cons_zero, List.set_cons_succ]
                        clear hS hfr hsz e22 e24 e13 e18 f0 f1 f2 c3 hc10
                        go_wp2_with fail
                        go_roundg (j - (u + 1))
                        case measure => omega
                        case rel => exact ⟨u + 1, false, by go_num, rfl, by omega, hno HNW.out, HUP5.out.drew⟩
                · have huj' : u = j := by omega
                  subst huj'
                  have hxt : x = true := HX.out.2 (by
                    rw [List.take_of_length_le (by rw [HN.out]; exact Nat.le_refl _), HNOW.out]
                    exact keeps_sector HI.out keep t)
                  subst hxt
                  clear huj hu
                  go_wp2_with fail
                  go_roundg (5 - (t + 1))
                  case measure => omega
                  case rel => exact ⟨t + 1, by go_num, by omega, HU12.out.then HUP4.out (fun _ _ h => h)⟩
            · go_wp2_with fail
              have hp := pending_c wr b _ (HD8.out.upd hUP.out (fun _ _ h => h))
              have ho := off_c wr b _ (HD8.out.upd hUP.out (fun _ _ h => h))
              have HF := Lib.hid (HU8.out.then hUP.out (fun _ _ h => h))
              refine hp.mono ?_
              rintro r w13 ⟨rfl, rfl⟩
              clear hp
              have e0 : (D.crash keep).2.pend.length = 0 := rfl
              rw [e0]
              clear e0
              go_wp2_with fail
              refine ho.mono ?_
              rintro r w14 ⟨rfl, rfl⟩
              clear ho
              have e1 : (D.crash keep).2.off = false := rfl
              rw [e1]
              clear e1
              go_wp2_with fail
              go_ret
              exact ⟨rfl, HF.out⟩
end Go.Proofs.YtlkmpjanchhahaaDoor
