/- The document's disk: the contract of Write. -/
import Derived.Test.YtlkmpjanchhahaaDoorRef3
namespace Go.Proofs.YtlkmpjanchhahaaDoor
open Go Go.RowKit
set_option linter.unusedSimpArgs false
set_option linter.unusedVariables false

def RM.write (R : RM) (i : Int) (l : List UInt8) : Int × RM :=
  if R.off then (16, R)
  else if R.has i = false then (1, R)
  else if 32 < l.length then (3, R)
  else if R.left = 0 then (16, R.deed.2)
  else (0, { R.deed.2 with pend := R.pend ++ [(i, pad32 l)] })

theorem splice0 (l : List UInt8) (h : l.length ≤ 32) : splice (u8s zero32) 0 (u8s l) = u8s (pad32 l) := by
  simp [splice, pad32, u8s, List.map_drop]
theorem RM.deed_ok {R : RM} (h : R.ok) (hd : R.deeds < 4611686018427387900) : R.deed.2.ok := by
  obtain ⟨o1, o2, o3, o4, o5, o6, o7⟩ := h
  unfold RM.deed
  split
  · exact ⟨o1, o2, o3, o4, o5, o6, o7⟩
  · exact ⟨by show 0 ≤ R.deeds + 1; omega, by show R.deeds + 1 < _; omega, by show -1 ≤ (if 0 < R.left then R.left - 1 else R.left); split <;> omega, by show (if 0 < R.left then R.left - 1 else R.left) ≤ _; split <;> omega, o5, o6, o7⟩
theorem RM.deed_safe (R : RM) : R.deed.2.safe = R.safe ∧ R.deed.2.pend = R.pend := by unfold RM.deed; split <;> exact ⟨rfl, rfl⟩

/-- The tail of Write: behind the deed. -/
theorem rwrite_err (B : Nat) (O : Nat → Prop) (w : World) (b : Nat) (R : RM) (h : RefIn B O w b R) (i : Int) (v : Value) (l : List UInt8) (hv : BytesR w v l) (hd : R.deeds < 4611686018427387900)
    (he : R.off = true ∨ R.has i = false ∨ 32 < l.length ∨ R.left = 0) :
    Calls Tryd.prog 23 #[.pointer (some ⟨b, 0, none⟩), .int .i64 i, v] w fun r w' => r = .returned (.int .i64 (R.write i l).1) ∧ RefIn B O w' b (R.write i l).2 ∧ Upd O w w' := by
  obtain ⟨sv, av, bv, vs, us, h⟩ := h
  have h4 : w.cell? ⟨b, 4, none⟩ = some (.bool R.off) := h.blk.cell 4
  obtain ⟨SA, sc, hsv, _⟩ := row_open h.rs
  have h0 : w.cell? ⟨b, 0, none⟩ = some (.slice SA R.safe.length sc) := by rw [← hsv]; exact h.blk.cell 0
  have hhas := rhas_c b i SA R.safe.length sc w h0 h.ok.size
  have hdeed := rdeed_c B O w b R sv av bv vs us h hd
  have H := Lib.hid h
  obtain ⟨va, vc, rfl, _⟩ := hv
  obtain ⟨ln, hln⟩ : ∃ ln, ln = l.length := ⟨_, rfl⟩
  rw [← hln]
  cases ho : R.off
  · by_cases hh : R.has i = false
    · have e : R.write i l = (1, R) := by unfold RM.write; rw [ho, if_neg (by simp), if_pos hh]
      rw [e]
      have hh' : (decide (0 ≤ i) && decide (i < R.safe.length)) = false := hh
      rw [ho] at h4
      rw [hh'] at hhas
      clear e h he hd hdeed ho hh hh' hln hsv h0
      go_enter Tryd.func23, Tryd.ntmps23
      go_wp2_with fail
      refine hhas.mono ?_
      rintro r w1 ⟨rfl, rfl⟩
      clear hhas
      go_wp2_with fail
      go_ret
      exact ⟨rfl, ⟨_, _, _, _, _, H.out⟩, Upd.refl _ _⟩
    · by_cases hl : 32 < l.length
      · have e : R.write i l = (3, R) := by unfold RM.write; rw [ho, if_neg (by simp), if_neg hh, if_pos hl]
        rw [e]
        have hh' : (decide (0 ≤ i) && decide (i < R.safe.length)) = true := by simpa [RM.has] using hh
        rw [ho] at h4
        rw [hh'] at hhas
        have hl' : (32 : Int) < ln := by omega
        clear e h he hd hdeed ho hh hh' hln hsv h0 hl
        go_enter Tryd.func23, Tryd.ntmps23
        go_wp2_with fail
        refine hhas.mono ?_
        rintro r w1 ⟨rfl, rfl⟩
        clear hhas
        go_wp2_with fail
        go_ret
        exact ⟨rfl, ⟨_, _, _, _, _, H.out⟩, Upd.refl _ _⟩
      · have hz : R.left = 0 := by
          rcases he with h | h | h | h
          · rw [ho] at h; cases h
          · exact absurd h hh
          · exact absurd h hl
          · exact h
        have e : R.write i l = (16, R.deed.2) := by unfold RM.write; rw [ho, if_neg (by simp), if_neg hh, if_neg hl, if_pos hz]
        rw [e]
        have e2 : R.deed.1 = false := by unfold RM.deed; rw [if_pos hz]
        rw [e2] at hdeed
        have hh' : (decide (0 ≤ i) && decide (i < R.safe.length)) = true := by simpa [RM.has] using hh
        rw [ho] at h4
        rw [hh'] at hhas
        have hl' : ¬ (32 : Int) < ln := by omega
        have HOB := Lib.hid h.ob
        clear e e2 h he hd ho hh hh' hln hsv h0 hl hz
        go_enter Tryd.func23, Tryd.ntmps23
        go_wp2_with fail
        refine hhas.mono ?_
        rintro r w1 ⟨rfl, rfl⟩
        clear hhas
        go_wp2_with fail
        refine hdeed.mono ?_
        rintro r w1 ⟨rfl, hr, hu⟩
        have HR := Lib.hid hr
        have HU := Lib.hid hu
        clear hdeed hr hu
        go_wp2_with fail
        go_ret
        exact ⟨rfl, ⟨_, _, _, _, _, HR.out⟩, HU.out.mono (fun k _ e => by subst e; exact HOB.out)⟩
  · have e : R.write i l = (16, R) := by unfold RM.write; rw [ho]; rfl
    rw [e]
    rw [ho] at h4
    clear e h he hd hdeed ho hln hsv h0 hhas
    go_enter Tryd.func23, Tryd.ntmps23
    go_wp2_with fail
    go_ret
    exact ⟨rfl, ⟨_, _, _, _, _, H.out⟩, Upd.refl _ _⟩

theorem one_one (v : Value) (h : v.oneCell' = true) : ∀ u ∈ [v], u.oneCell' = true := by simpa using h
theorem build1i (i : Int) (W : World) : (Instr.buildSlice 88 1 #[(0, .int .i64 i)]).run Tryd.prog W = .ok (.slice (some ⟨W.heap.size, 0, none⟩) 1 1) (W.alloc (.cells #[.int .i64 i] 3)) := by go_simp

set_option maxHeartbeats 1000000 in
set_option maxRecDepth 100000 in
theorem rwrite_ok (B : Nat) (O : Nat → Prop) (w : World) (b : Nat) (R : RM) (h : RefIn B O w b R) (hB : B ≤ w.heap.size) (i : Int) (v : Value) (l : List UInt8) (hv : BytesR w v l) (hvb : 0 < l.length → v.ownBlock ≠ some b) (hd : R.deeds < 4611686018427387900) (hpn : R.pend.length < 999999)
    (ho : R.off = false) (hh : R.has i = true) (hl : l.length ≤ 32) (hz : ¬ R.left = 0) :
    Calls Tryd.prog 23 #[.pointer (some ⟨b, 0, none⟩), .int .i64 i, v] w fun r w' => r = .returned (.int .i64 0) ∧ (∃ O', RefIn B O' w' b { R.deed.2 with pend := R.pend ++ [(i, pad32 l)] } ∧ ∀ k, O' k → O k ∨ w.heap.size ≤ k) ∧ Upd O w w' := by
  obtain ⟨sv, av, bv, vs, us, h⟩ := h
  have h4 : w.cell? ⟨b, 4, none⟩ = some (.bool R.off) := h.blk.cell 4
  obtain ⟨SA, sc, hsv, _⟩ := row_open h.rs
  have h0 : w.cell? ⟨b, 0, none⟩ = some (.slice SA R.safe.length sc) := by rw [← hsv]; exact h.blk.cell 0
  have hhas := rhas_c b i SA R.safe.length sc w h0 h.ok.size
  have hdeed := rdeed_c B O w b R sv av bv vs us h hd
  have hok := RM.deed_ok h.ok hd
  have HOK := Lib.hid hok
  have H := Lib.hid h
  have HV := Lib.hid hv
  have HVB := Lib.hid hvb
  obtain ⟨va, vc, rfl, _⟩ := hv
  obtain ⟨ln, hln⟩ : ∃ ln, ln = l.length := ⟨_, rfl⟩
  rw [← hln] at hl ⊢
  have HLN := Lib.hid hln
  have e2 : R.deed.1 = true := by unfold RM.deed; rw [if_neg hz]
  rw [e2] at hdeed
  have hh' : (decide (0 ≤ i) && decide (i < R.safe.length)) = true := hh
  rw [ho] at h4
  rw [hh'] at hhas
  have hl' : ¬ (32 : Int) < ln := by omega
  have HIB := Lib.hid (show 0 ≤ i ∧ i < R.safe.length by simpa using hh')
  obtain ⟨d, hdd⟩ : ∃ d, d = R.deed.2 := ⟨_, rfl⟩
  have hs := R.deed_safe
  rw [← hdd] at hs hdeed ⊢
  have HS := Lib.hid hs
  have HDD := Lib.hid hdd
  have HB := Lib.hid hB
  have HHD := Lib.hid hd
  clear e2 h hd ho hh hh' hln hsv h0 hz hvb hok hdd hs hB
  go_enter Tryd.func23, Tryd.ntmps23
  go_wp2_with fail
  refine hhas.mono ?_
  rintro r w1 ⟨rfl, rfl⟩
  clear hhas
  go_wp2_with fail
  refine hdeed.mono ?_
  rintro r w1 ⟨rfl, hr, hu⟩
  have HR := Lib.hid hr
  have HU := Lib.hid hu
  have hv1 : BytesR w1 (.slice va ln vc) l := by
    obtain ⟨a', c', e, hc⟩ := HV.out
    injection e with e1 e2 e3
    subst e1; subst e3
    refine ⟨va, vc, by rw [HLN.out], fun hp => ?_⟩
    obtain ⟨ad, ea', hc2⟩ := hc hp
    subst ea'
    refine ⟨ad, rfl, fun j u hj => hu.cell (hc2 j u hj) ?_⟩
    have : (ad.add j).block = ad.block := by unfold Addr.add; split <;> rfl
    rw [this]
    intro e
    exact HVB.out hp (by rw [← e]; rfl)
  have HV1 := Lib.hid hv1
  obtain ⟨s1, hs1⟩ : ∃ s1, s1 = w1.heap.size := ⟨_, rfl⟩
  have HS1 := Lib.hid hs1
  have hblk1 : Blk (w1.alloc (.cells (u8s zero32).toArray 5)) s1 5 (u8s zero32).toArray := by rw [hs1]; exact Blk.new w1 5 (u8s zero32).toArray
  have HBLK := Lib.hid hblk1
  clear hblk1
  have size5 : (Tryd.prog.info? 5).map (·.size) = some 1 := by kernel_rfl
  have hmk : (Instr.makeSlice 33 (.int .i64 32) (.int .i64 32)).run Tryd.prog w1 = .ok (.slice (some ⟨s1, 0, none⟩) 32 32) (w1.alloc (.cells (u8s zero32).toArray 5)) := by rw [hs1]; exact make32 w1
  have HMK := Lib.hid hmk
  clear hdeed hr hu hv1 hs1 hmk
  go_wp2_with (first
    | (refine wpl_val (v := .slice (some ⟨s1, 0, none⟩) 32 32) (w' := w1.alloc (.cells (u8s zero32).toArray 5)) rfl (exec_makeSliceC 33 (.int .i64 32) (.int .i64 32) rfl HMK.out) ?_)
    | (refine wpList_copy_splice (w := w1.alloc (.cells (u8s zero32).toArray 5)) rfl _ _ 33 33 rfl 5 Tryd.underlying33 size5 (some ⟨s1, 0, none⟩) va 32 32 ln vc rfl rfl s1 0 (u8s zero32) 5 HBLK.out (u8s l) (by rw [u8s_length, ← HLN.out]; simp [Nat.min_def]; omega) ?_ (by rw [u8s_length, u8s_length, ← HLN.out, zero32_length]; omega) (u8s_one _) w1.heap.size w1 ((Below.refl _ _).alloc (Nat.le_refl _) _) (by rw [HS1.out]; exact Nat.le_refl _) ?_)
    | fail)
  · intro hp
    rw [u8s_length] at hp
    obtain ⟨a', c', e, hc⟩ := HV1.out
    obtain ⟨ad, ea', hc2⟩ := hc hp
    injection e with e1 e2 e3
    subst e1
    subst ea'
    exact ⟨ad, rfl, fun j u hj => ((Upd.refl (fun _ => False) w1).alloc _).cell (hc2 j u hj) (fun h => h)⟩
  intro w2 hb2 hbel
  have hu12 : Upd (fun _ => False) w1 w2 := Upd.of_below hbel
  have hs1w : s1 < w2.heap.size := by
    have := (Array.getElem?_eq_some_iff.1 hb2.out).1
    exact this
  have hg2 := (HR.out.g.upd hu12 (fun _ _ h => h)).mono (O' := fun k => O k ∨ k = s1) (fun k hk => .inl hk) (fun k hk => by rcases hk with hk | hk; exact HR.out.ge k hk; have := HS1.out; have := HU.out.size; have := HB.out; omega) (fun k hk => by rcases hk with hk | hk; have := HR.out.lt k hk; have := hu12.size; omega; omega)
  have hsec : SecAt (fun k => O k ∨ k = s1) w2 (.slice (some ⟨s1, 0, none⟩) 32 32) (pad32 l) := by
    have h32 : l.length ≤ 32 := by rw [← HLN.out]; exact hl
    refine ⟨s1, .inr rfl, rfl, ?_, pad32_length l h32⟩
    have := hb2.out
    rw [splice0 l h32] at this
    exact this
  have c1 : w2.cell? ⟨b, 1, none⟩ = some av := hg2.blk.cell 1
  obtain ⟨i3, hi3, hz3, hs3, hb3⟩ := info_parts (show (Tryd.prog.info? 3).map (fun i => (i.zero, i.size, i.bytes)) = some (some (.int .i64 0), 1, 8) by kernel_rfl)
  obtain ⟨i33, hi33, hz33, hs33, hb33⟩ := info_parts (show (Tryd.prog.info? 33).map (fun i => (i.zero, i.size, i.bytes)) = some (some (.slice none 0 0), 1, 24) by kernel_rfl)
  have hB2 : B ≤ w2.heap.size := by have := HU.out.size; have := hu12.size; have := HB.out; omega
  obtain ⟨n, hn⟩ : ∃ n, n = R.pend.length := ⟨_, rfl⟩
  have HN := Lib.hid hn
  have HG2 := Lib.hid hg2
  have HSEC := Lib.hid hsec
  have HU12 := Lib.hid hu12
  have HI3 := Lib.hid hi3
  have HI33 := Lib.hid hi33
  have HZ3 := Lib.hid hz3
  have HZ33 := Lib.hid hz33
  have HS3 := Lib.hid hs3
  have HS33 := Lib.hid hs33
  have HB3 := Lib.hid hb3
  have HB33 := Lib.hid hb33
  have HB2 := Lib.hid hB2
  have hn9 : n < 999999 := by rw [hn]; exact hpn
  have hplen : (places d.pend).length = n := by rw [HS.out.2, hn]; simp [places]
  have hblen : (bodies d.pend).length = n := by rw [HS.out.2, hn]; simp [bodies]
  have HPLEN := Lib.hid hplen
  have HBLEN := Lib.hid hblen
  have hra : (w2.alloc (.cells #[.int .i64 i] 3)).ownsRow B 3 1 av n (places d.pend) := by
    have := hg2.ra
    rw [hplen] at this
    exact ownsRow_upd this ((Upd.refl (fun _ => False) w2).alloc _) (fun _ _ h => h)
  have HRA := Lib.hid hra
  clear hb2 hbel hu12 hs1w hg2 hsec hi3 hi33 hz3 hz33 hs3 hs33 hb3 hb33 hB2 hn hplen hblen hra
  go_wp2_with (first
    | (at_builtin; refine wpList_append_own_at (w := w2.alloc (.cells #[.int .i64 i] 3)) rfl _ _ 88 rfl B 3 i3 (.int .i64 0) 1 8 Tryd.underlying88 HI3.out HZ3.out HS3.out HB3.out rfl (by decide) av n (places d.pend) rfl HRA.out ⟨w2.heap.size, 0, none⟩ 1 1 [.int .i64 i] rfl rfl ?_ (one_one _ rfl) ?_ ?_ ?_ ?_)
    | fail)
  · intro j u hj
    rw [Addr.add_mid, Nat.zero_add, (Blk.new w2 3 #[.int .i64 i]).cell]
    simpa using hj
  · unfold maxLen; omega
  · omega
  · exact Nat.le_trans HB2.out ((Upd.refl (fun _ => False) w2).alloc (.cells #[.int .i64 i] 3)).size
  intro av' w3 hown3 hgr3 _ hat3
  obtain ⟨A3, k3, rfl⟩ := own_shape hown3
  have hpush := HG2.out.pushAt ((Upd.refl (fun _ => False) w2).alloc (.cells #[.int .i64 i] 3)) (by rw [HPLEN.out]; exact hown3) hgr3 (by simpa using hat3) HB2.out
  have d1 : w3.cell? ⟨b, 1, none⟩ = some av := hpush.1.cell 1
  have d2 : w3.cell? ⟨b, 2, none⟩ = some bv := hpush.1.cell 2
  have f1 := hpush.1.froz 1
  have f2 := hpush.1.froz 2
  have HPUSH := Lib.hid hpush
  obtain ⟨W4, hW4⟩ : ∃ W4, W4 = w3.setCell ⟨b, 1, none⟩ (.slice A3 (n + 1) k3) := ⟨_, rfl⟩
  have HW4 := Lib.hid hW4
  have hrb : ((w3.setCell ⟨b, 1, none⟩ (.slice A3 (n + 1) k3)).alloc (.cells #[.slice (some ⟨s1, 0, none⟩) 32 32] 33)).ownsRow B 33 1 bv n us := by
    have := hpush.2.1.rb
    rw [HBLEN.out] at this
    exact ownsRow_upd this ((Upd.refl (fun _ => False) _).alloc _) (fun _ _ h => h)
  have HRB := Lib.hid hrb
  have hsz4 : (w3.setCell ⟨b, 1, none⟩ (.slice A3 (n + 1) k3)).heap.size = w3.heap.size := by simp [World.setCell]
  have HSZ4 := Lib.hid hsz4
  have hB3 : B ≤ w3.heap.size := Nat.le_trans HB2.out (Nat.le_trans ((Upd.refl (fun _ => False) w2).alloc (.cells #[.int .i64 i] 3)).size hgr3.size)
  have HB3' := Lib.hid hB3
  have hsec4 := hpush.2.2.2 _ _ HSEC.out
  have HSEC4 := Lib.hid hsec4
  clear hpush hrb hsz4 hown3 hgr3 hat3 c1 hW4 hB3 hsec4
  go_wp2_with (first
    | (at_builtin; refine wpList_append_own_at (w := (w3.setCell ⟨b, 1, none⟩ (.slice A3 (n + 1) k3)).alloc (.cells #[.slice (some ⟨s1, 0, none⟩) 32 32] 33)) rfl _ _ 64 rfl B 33 i33 (.slice none 0 0) 1 24 Tryd.underlying64 HI33.out HZ33.out HS33.out HB33.out rfl (by decide) bv n us rfl HRB.out ⟨w3.heap.size, 0, none⟩ 1 1 [.slice (some ⟨s1, 0, none⟩) 32 32] rfl rfl ?_ (one_one _ rfl) ?_ ?_ ?_ ?_)
    | fail)
  · intro j u hj
    have := (Blk.new (w3.setCell ⟨b, 1, none⟩ (.slice A3 (n + 1) k3)) 33 #[.slice (some ⟨s1, 0, none⟩) 32 32]).cell (0 + j)
    rw [HSZ4.out] at this
    rw [Addr.add_mid, this, Nat.zero_add]
    simpa using hj
  · unfold maxLen; omega
  · omega
  · refine Nat.le_trans ?_ ((Upd.refl (fun _ => False) _).alloc _).size
    rw [HSZ4.out]; exact HB3'.out
  intro bv' w5 hown5 hgr5 _ hat5
  obtain ⟨A5, k5, rfl⟩ := own_shape hown5
  have e4 : ((w3.setCell ⟨b, 1, none⟩ (.slice A3 (n + 1) k3)).alloc (.cells #[.slice (some ⟨s1, 0, none⟩) 32 32] 33)).heap.size = w3.heap.size + 1 := by rw [← HSZ4.out]; simp
  have hat5' : (Value.slice A5 (n + 1) k5).ownBlock = bv.ownBlock ∨ (Value.slice A5 (n + 1) k5).ownBlock = some ((w3.setCell ⟨b, 1, none⟩ (.slice A3 (n + 1) k3)).alloc (.cells #[.slice (some ⟨s1, 0, none⟩) 32 32] 33)).heap.size := by rw [e4]; exact hat5
  have hlast := HPUSH.out.2.1.pushBody ((Upd.refl (fun _ => False) _).alloc (.cells #[.slice (some ⟨s1, 0, none⟩) 32 32] 33)) HSEC4.out (by rw [HBLEN.out]; exact hown5) hgr5 hat5' (by rw [HSZ4.out]; exact HB3'.out)
  have e1 : w5.cell? ⟨b, 2, none⟩ = some bv := hlast.1.cell 2
  have f5 := hlast.1.froz 2
  have HLAST := Lib.hid hlast
  have HSZ5 := Lib.hid hgr5.size
  clear hlast hown5 hgr5 hat5 hat5' e4
  go_wp2_with fail
  go_ret
  have hfin := HLAST.out.2.1
  have eb : bodies d.pend ++ [pad32 l] = bodies (R.pend ++ [(i, pad32 l)]) := by rw [HS.out.2]; simp [bodies]
  have ep : places d.pend ++ [.int .i64 i] = places (R.pend ++ [(i, pad32 l)]) := by rw [HS.out.2]; simp [places]
  rw [eb, ep] at hfin
  have h12 := HU12.out.size
  have h01 := HU.out.size
  have hs1' := HS1.out
  have hO2 : ∀ k, ((O k ∨ k = s1) ∨ w2.heap.size ≤ k ∧ k < w3.heap.size) → O k ∨ w.heap.size ≤ k := by
    intro k hk
    rcases hk with (hk | hk) | hk
    · exact .inl hk
    · exact .inr (by omega)
    · exact .inr (by omega)
  have hsz3 : w2.heap.size ≤ w3.heap.size := HPUSH.out.2.2.1.size
  refine ⟨rfl, ⟨_, ⟨_, _, _, _, _, RefG.rows (R := { d with pend := R.pend ++ [(i, pad32 l)] }) hfin ?_⟩, ?_⟩, ?_⟩
  · obtain ⟨o1, o2, o3, o4, o5, o6, o7⟩ := HOK.out
    rw [← HDD.out] at o1 o2 o3 o4 o5 o6 o7
    refine ⟨o1, o2, o3, o4, ?_, o6, ?_⟩
    · show (R.pend ++ [(i, pad32 l)]).length < _
      simp
      omega
    · intro p hp
      rcases List.mem_append.1 hp with hp | hp
      · have := o7 p (by rw [HS.out.2]; exact hp)
        exact this
      · simp at hp
        subst hp
        have := HIB.out
        show 0 ≤ i ∧ i < (d.safe.length : Int)
        rw [HS.out.1]
        exact this
  · intro k hk
    rcases hk with hk | hk
    · exact hO2 k hk
    · exact .inr (by have := HSZ4.out; omega)
  · have u1 : Upd O w w2 := (HU.out.mono (fun k _ e => by subst e; exact HR.out.ob)).then HU12.out (fun _ _ h => h.elim)
    have u2 : Upd O w w3 := u1.then HPUSH.out.2.2.1 (fun k hk hs => by
      rcases hs with hs | hs
      · exact hs
      · omega)
    have u3 : Upd O w (w3.setCell ⟨b, 1, none⟩ (.slice A3 (n + 1) k3)) := u2.setCell (fun _ => HR.out.ob) _
    have u4 : Upd O w w5 := u3.then HLAST.out.2.2 (fun k hk hs => by
      rcases hs with (hs | hs) | hs
      · exact hs
      · omega
      · omega)
    exact u4.setCell (fun _ => HR.out.ob) _
theorem rwrite_c (B : Nat) (O : Nat → Prop) (w : World) (b : Nat) (R : RM) (h : RefIn B O w b R) (hB : B ≤ w.heap.size) (i : Int) (v : Value) (l : List UInt8) (hv : BytesR w v l) (hvb : 0 < l.length → v.ownBlock ≠ some b) (hd : R.deeds < 4611686018427387900) (hpn : R.pend.length < 999999) :
    Calls Tryd.prog 23 #[.pointer (some ⟨b, 0, none⟩), .int .i64 i, v] w fun r w' => r = .returned (.int .i64 (R.write i l).1) ∧ (∃ O', RefIn B O' w' b (R.write i l).2 ∧ ∀ k, O' k → O k ∨ w.heap.size ≤ k) ∧ Upd O w w' := by
  by_cases he : R.off = true ∨ R.has i = false ∨ 32 < l.length ∨ R.left = 0
  · refine (rwrite_err B O w b R h i v l hv hd he).mono ?_
    rintro r w' ⟨rfl, h1, h2⟩
    exact ⟨rfl, ⟨O, h1, fun k hk => .inl hk⟩, h2⟩
  · simp only [not_or] at he
    obtain ⟨h1, h2, h3, h4⟩ := he
    have e : R.write i l = (0, { R.deed.2 with pend := R.pend ++ [(i, pad32 l)] }) := by
      unfold RM.write
      rw [if_neg h1, if_neg h2, if_neg h3, if_neg h4]
    rw [e]
    exact rwrite_ok B O w b R h hB i v l hv hvb hd hpn (by simpa using h1) (by simpa using h2) (by omega) h4
end Go.Proofs.YtlkmpjanchhahaaDoor
