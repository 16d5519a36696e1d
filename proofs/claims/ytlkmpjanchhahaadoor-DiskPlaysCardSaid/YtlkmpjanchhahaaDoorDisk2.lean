/- The contract of (*disk.Disk).Write. -/
import Derived.Test.YtlkmpjanchhahaaDoorDisk1
namespace Go.Proofs.YtlkmpjanchhahaaDoor
open Go.RowKit
set_option linter.unusedSimpArgs false
set_option linter.unusedVariables false

def pad32 (l : List UInt8) : List UInt8 := l ++ zero32.drop l.length
theorem pad32_length (l : List UInt8) (h : l.length ≤ 32) : (pad32 l).length = 32 := by simp [pad32, zero32_length]; omega
theorem splice_wcell (i : Int) (l : List UInt8) : splice (wcell (i, zero32)) 1 (u8s l) = wcell (i, pad32 l) := by
  simp [splice, wcell, pad32, u8s, Nat.add_comm 1]

theorem write_fin (B : Nat) (O : Nat → Prop) (w w1 w2 w3 : World) (b m : Nat) (pv v' : Value) (D1 : DM) (p : Int × List UInt8) (cs : Array Value)
    (hu1 : Upd (fun k => k = b) w w1) (h1 : O b) (h2 : O m) (h3 : ∀ k, pv.ownBlock = some k → O k) (h4 : ∀ k, O k → B ≤ k) (h5 : ∀ k, O k → k < w1.heap.size) (hok : D1.ok) (hpn : D1.pend.length < 999999) (hp : p.2.length = 32)
    (hB2 : Below w1.heap.size w1 w2) (b3 : Blk w2 b 79 #[.int .i64 D1.size, .map (some m), pv, .int .i64 D1.left, .bool D1.off, .int .i64 D1.deeds]) (m3 : MapAt w2 m D1.safe)
    (own2 : w2.ownsRow B 85 33 pv D1.pend.length (wcells D1.pend)) (hown3 : w3.ownsRow B 85 33 v' (D1.pend.length + 1) (wcells D1.pend ++ wcell p)) (hgr3 : (w2.drew.alloc (.cells cs 85)).grownBy w3 pv.ownBlock)
    (hat : v'.ownBlock = pv.ownBlock ∨ v'.ownBlock = some (w2.drew.alloc (.cells cs 85)).heap.size) (hBw : B ≤ w.heap.size) :
    (w3.cell? ⟨b, 2, none⟩ = some pv ∧ w3.frozen? ⟨b, 2, none⟩ = false) ∧ (∃ O', DiskIn B O' (w3.setCell ⟨b, 2, none⟩ v') b { D1 with pend := D1.pend ++ [p] } ∧ ∀ k, O' k → O k ∨ w.heap.size ≤ k) ∧ Upd O w (w3.setCell ⟨b, 2, none⟩ v') := by
  have u2 : Upd (fun _ => False) w2 (w2.drew.alloc (.cells cs 85)) := ((Upd.refl _ w2).drew).alloc _
  have hrow : pv.ownBlock ≠ some b := own_ne own2 b3 (by decide)
  have hmb : m ≠ b := m3.ne b3
  have hrm : pv.ownBlock ≠ some m := own_ne_map own2 m3
  have u3 : Upd (fun k => pv.ownBlock = some k) (w2.drew.alloc (.cells cs 85)) w3 := (Upd.refl _ _).grown hgr3 (fun k e _ => e)
  have b5 := (b3.upd u2 (fun h => h)).upd u3 hrow
  have m5 := (m3.upd u2 (fun h => h)).upd u3 hrm
  have u4 : Upd (fun k => k = b) w3 (w3.setCell ⟨b, 2, none⟩ v') := (Upd.refl (fun k => k = b) w3).setCell (p := ⟨b, 2, none⟩) (fun _ => rfl) _
  have u12 : Upd (fun _ => False) w1 w2 := Upd.of_below hB2
  have hsz := u12.size
  have hu : Upd O w (w3.setCell ⟨b, 2, none⟩ v') := by
    have a1 : Upd O w w1 := hu1.mono (fun k _ e => by subst e; exact h1)
    have a2 : Upd O w w2 := a1.then u12 (fun _ _ h => h.elim)
    have a3 : Upd O w (w2.drew.alloc (.cells cs 85)) := a2.then u2 (fun _ _ h => h.elim)
    have a4 : Upd O w w3 := a3.then u3 (fun k _ e => h3 k e)
    exact a4.then u4 (fun k _ e => by subst e; exact h1)
  have hlt3 : w2.heap.size + 1 ≤ w3.heap.size := by have := u3.size; simp at this; exact this
  have hs1 := hu1.size
  refine ⟨⟨b5.cell 2, b5.froz 2⟩, ⟨fun k => k = b ∨ k = m ∨ v'.ownBlock = some k, ⟨m, v', .inl rfl, .inr (.inl rfl), fun k e => .inr (.inr e), ?_, ?_, ?_, ?_, m5.upd u4 hmb, ?_⟩, ?_⟩, hu⟩
  · rintro k (rfl | rfl | e)
    · exact h4 _ h1
    · exact h4 _ h2
    · exact (hown3.lt k e).1
  · rintro k (rfl | rfl | e)
    · exact Nat.lt_of_lt_of_le (h5 _ h1) (by have := u4.size; omega)
    · exact Nat.lt_of_lt_of_le (h5 _ h2) (by have := u4.size; omega)
    · exact Nat.lt_of_lt_of_le (hown3.lt k e).2 u4.size
  · exact ⟨hok.deeds0, hok.deeds1, hok.left0, hok.left1, by simp; omega, by intro q hq; simp at hq; rcases hq with hq | rfl; exact hok.full q hq; exact hp, hok.sfull⟩
  · exact b5.set 2 v'
  · have hne : v'.ownBlock ≠ some b := own_ne hown3 b5 (by decide)
    have := ownsRow_upd hown3 u4 (fun k hk e => hne (by rw [hk, e]))
    simpa [wcells_snoc] using this
  · rintro k (rfl | rfl | e)
    · exact .inl h1
    · exact .inl h2
    · rcases hat with h | h
      · exact .inl (h3 k (by rw [← h]; exact e))
      · right
        rw [h] at e
        injection e with e
        subst e
        simp
        omega

set_option maxRecDepth 20000 in
set_option maxHeartbeats 1000000 in
theorem write_ok (ea : Nat → Addr) (B : Nat) (O : Nat → Prop) (w : World) (b : Nat) (D : DM) (h : DiskIn B O w b D) (hE : Errs ea B w) (i : Int) (v : Value) (l : List UInt8) (hv : BytesR w v l) (hvb : 0 < l.length → v.ownBlock ≠ some b)
    (hoff : D.off = false) (hhas : D.has i = true) (hlen : l.length ≤ 32) (hleft : D.left ≠ 0) (hd : D.deeds < 4611686018427387900) (hpn : D.pend.length < 999999) :
    Calls Tryd.prog 13 #[.pointer (some ⟨b, 0, none⟩), .int .i64 i, v] w fun r w' => r = .returned .nilIface ∧ (∃ O', DiskIn B O' w' b { D.deed.2 with pend := D.pend ++ [(i, pad32 l)] } ∧ ∀ k, O' k → O k ∨ w.heap.size ≤ k) ∧ Upd O w w' := by
  have h' := h
  have hdeed := deed_c ea B O w b D h hE hd
  have e1 : D.deed.1 = none := by unfold DM.deed; rw [if_neg hleft]
  rw [e1, show ev ea none = .nilIface from rfl] at hdeed
  obtain ⟨av, cv, rfl, hvc⟩ := hv
  obtain ⟨m, pv, h1, h2, h3, h4, h5, h6, h7, h8, h9⟩ := h
  have c0 : w.cell? ⟨b, 0, none⟩ = some (.int .i64 D.size) := h7.cell 0
  have c4 : w.cell? ⟨b, 4, none⟩ = some (.bool false) := by have : w.cell? ⟨b, 4, none⟩ = some (.bool D.off) := h7.cell 4; rw [hoff] at this; exact this
  have hhas' := has_c b i D.size w c0
  unfold DM.has at hhas
  rw [hhas] at hhas'
  have HV := Lib.hid hvc
  have HE := Lib.hid hE
  have hl32 : (l.length : Int) ≤ 32 := by omega
  clear h1 h2 h3 h4 h5 h6 h7 h8 h9 h' hvc hE hoff hhas hleft hd e1
  go_enter Tryd.func13, Tryd.ntmps13
  go_wp2_with (go_at_call 51; refine hhas'.mono ?_; rintro e w' ⟨rfl, rfl⟩)
  refine hdeed.mono ?_
  rintro r w1 ⟨rfl, hD1, hu1⟩
  have hv1 : 0 < l.length → ∃ ad, av = some ad ∧ ∀ j u, (u8s l)[j]? = some u → w1.cell? (ad.add j) = some u := by
    intro hl
    obtain ⟨ad, rfl, hc⟩ := HV.out hl
    refine ⟨ad, rfl, fun j u hj => hu1.cell (hc j u hj) ?_⟩
    have : (ad.add j).block = ad.block := by unfold Addr.add; split <;> rfl
    rw [this]
    intro e
    exact hvb hl (by rw [← e]; rfl)
  clear hdeed c0 c4 hhas' HV
  have HV1 := Lib.hid hv1
  obtain ⟨m, pv, h1, h2, h3, h4, h5, h6, h7, h8, h9⟩ := hD1
  clear hv1
  go_wp2_with (first
    | (refine wpl_build rfl 85 _ rfl #[(0, .int .i64 i)] (by simp [Act.eval]) _ (build85 i _) ?_)
    | (refine wpl_alloc rfl 85 rfl _ (zero85 _) ?_)
    | (refine wpl_store_new rfl 85 _ _ rfl w1 (wcell (0, zero32)) 85 rfl rfl (wcell (i, zero32)) rfl (by rw [wcell_length (by simp [zero32]), wcell_length (by simp [zero32])]) (by rw [wcell_length (by simp [zero32])]; exact size85) (wcell_one _) ?_)
    | (refine wpList_copy_splice (w := w1.alloc (.cells (wcell (i, zero32)).toArray 85)) rfl _ _ 33 33 rfl 5 Tryd.underlying33 size5 (some ⟨w1.heap.size, 1, none⟩) av 32 32 l.length cv rfl rfl w1.heap.size 1 (wcell (i, zero32)) 85 (Blk.new _ _ _) (u8s l) (by rw [u8s_length]; simp [Nat.min_def]; omega) ?_ (by rw [u8s_length, wcell_length (by simp [zero32])]; omega) (u8s_one _) w1.heap.size w1 ((Below.refl _ _).alloc (Nat.le_refl _) _) (Nat.le_refl _) ?_))
  · intro hl
    rw [u8s_length] at hl
    obtain ⟨ad, rfl, hc⟩ := HV1.out hl
    exact ⟨ad, rfl, fun j u hj => (World.cell?_alloc_lt _ _ _ (World.block_lt_of_cell? _ _ (hc j u hj))).trans (hc j u hj)⟩
  intro w2 hH hB2
  rw [splice_wcell] at hH
  have b2 : Blk w2 w1.heap.size 85 (wcell (i, pad32 l)).toArray := hH.out
  have hbl : b < w1.heap.size := h5 b h1
  have d2 : w2.cell? ⟨b, 2, none⟩ = some pv := (hB2.cell (p := ⟨b, 2, none⟩) hbl).trans (h7.cell 2)
  have f2 : w2.frozen? ⟨b, 2, none⟩ = false := (hB2.frozen (p := ⟨b, 2, none⟩) hbl).trans (h7.froz 2)
  have r2 : w2.rangeAt w1.heap.size 0 (wcell (i, pad32 l)) := by
    have := b2.range 0 33
    rw [List.drop_zero, List.take_of_length_le (by simp; rw [wcell_length (pad32_length l hlen)]; exact Nat.le_refl _)] at this
    simpa using this
  have b3 : Blk w2 b 79 #[.int .i64 D.deed.2.size, .map (some m), pv, .int .i64 D.deed.2.left, .bool D.deed.2.off, .int .i64 D.deed.2.deeds] := h7.upd (Upd.of_below (S := fun _ => False) hB2) (fun h => h)
  have m3 : MapAt w2 m D.deed.2.safe := h8.upd (Upd.of_below (S := fun _ => False) hB2) (fun h => h)
  have B3 := Lib.hid b3
  have M3 := Lib.hid m3
  have own2 : w2.ownsRow B 85 33 pv D.deed.2.pend.length (wcells D.deed.2.pend) := ownsRow_upd h9 (Upd.of_below (S := fun _ => False) hB2) (fun _ _ h => h)
  have OWN2 := Lib.hid own2
  have R2 := Lib.hid r2
  have hg2 : w1.heap.size < w2.heap.size := b2.lt
  have hbg : b ≠ w1.heap.size := by omega
  clear hH h7 h8 h9 HV1 b3 m3 own2 r2 b2
  go_wp2
  refine wp_region_any (by kernel_rfl) ?_
  change wpAny _ _ _ _ _ _ _ (World.drew _)
  refine any_take (i := 0) (.pointer (some ⟨b, 0, none⟩)) rfl (by kernel_rfl) (by kernel_rfl) (by kernel_rfl) (fun _ _ _ h => h) (by rfl) (fun W => by go_simp) ?_
  refine any_take (i := 1) (.pointer (some ⟨b, 0, none⟩)) rfl (by kernel_rfl) (by kernel_rfl) (by kernel_rfl) (fun _ _ _ h => h) (by rfl) (fun W => by go_simp) ?_
  refine any_take (i := 2) (.pointer (some ⟨b, 0, none⟩)) rfl (by kernel_rfl) (by kernel_rfl) (by kernel_rfl) (fun _ _ _ h => h) (by rfl) (fun W => by go_simp) ?_
  refine any_take (i := 3) (.pointer (some ⟨b, 2, none⟩)) rfl (by kernel_rfl) (by kernel_rfl) (by kernel_rfl) (fun _ _ _ h => h) (by rfl) (fun W => by go_simp) ?_
  simp only [Act.put, List.setIfInBounds_toArray, List.set_cons_zero, List.set_cons_succ]
  have hwl : (wcell (i, pad32 l)).length = 33 := wcell_length (pad32_length l hlen)
  have run4 : ∀ W : World, W.cell? ⟨b, 2, none⟩ = some pv → (Instr.loadAt 77 (.pointer (some ⟨b, 2, none⟩))).run Tryd.prog W = .ok pv W := fun W hW => by go_simp
  have d2a : ∀ o, (w2.alloc o).cell? ⟨b, 2, none⟩ = some pv := fun o => (World.cell?_alloc_lt _ _ _ (World.block_lt_of_cell? _ _ d2)).trans d2
  have hbs : ∀ W : World, (Instr.buildSlice 77 1 #[(0, .agg (wcell (i, pad32 l)).toArray)]).run Tryd.prog W = .ok (.slice (some ⟨W.heap.size, 0, none⟩) 1 1) (W.alloc (.cells (wcell (i, pad32 l)).toArray 85)) := fun W =>
    run_buildSlice_one 77 85 Tryd.underlying77 _ (.agg (wcell (0, zero32)).toArray) (by rw [hwl]; kernel_rfl) (by omega) (by omega)
  have HBS := Lib.hid hbs
  have RUN4 := Lib.hid run4
  have HWL := Lib.hid hwl
  clear hbs run4 hwl
  refine any_two (i := 4) (j := 5) rfl rfl rfl rfl (by kernel_rfl) (vi := pv) (wi := w2.drew) (vj := .agg (wcell (i, pad32 l)).toArray) (wj := w2.drew) (exec_load 77 (.tmp 40) rfl (RUN4.out w2.drew d2)) (exec_load_many 85 _ rfl w1.heap.size 0 rfl _ _ R2.out Tryd.underlying85 rfl (by rw [HWL.out]; exact size85)) ?h4 ?h5
  case' h4 =>
    simp only [Act.put, List.setIfInBounds_toArray, List.set_cons_zero, List.set_cons_succ]
    refine any_one (i := 5) rfl rfl (by kernel_rfl) (v := .agg (wcell (i, pad32 l)).toArray) (w' := w2.drew) (exec_load_many 85 _ rfl w1.heap.size 0 rfl _ _ R2.out Tryd.underlying85 rfl (by rw [HWL.out]; exact size85)) ?_
    simp only [Act.put, List.setIfInBounds_toArray, List.set_cons_zero, List.set_cons_succ]
    refine any_one (i := 6) rfl rfl (by kernel_rfl) (exec_buildSlice 77 1 _ rfl #[(0, .agg (wcell (i, pad32 l)).toArray)] (by simp [Act.eval]) (HBS.out w2.drew)) ?_
    simp only [Act.put, List.setIfInBounds_toArray, List.set_cons_zero, List.set_cons_succ]
  case' h5 =>
    simp only [Act.put, List.setIfInBounds_toArray, List.set_cons_zero, List.set_cons_succ]
    refine any_two (i := 4) (j := 6) rfl rfl rfl rfl (by kernel_rfl) (vi := pv) (wi := w2.drew) (exec_load 77 (.tmp 40) rfl (RUN4.out w2.drew d2)) (exec_buildSlice 77 1 _ rfl #[(0, .agg (wcell (i, pad32 l)).toArray)] (by simp [Act.eval]) (HBS.out w2.drew)) ?h46 ?h64
    case' h46 =>
      simp only [Act.put, List.setIfInBounds_toArray, List.set_cons_zero, List.set_cons_succ]
      refine any_one (i := 6) rfl rfl (by kernel_rfl) (exec_buildSlice 77 1 _ rfl #[(0, .agg (wcell (i, pad32 l)).toArray)] (by simp [Act.eval]) (HBS.out w2.drew)) ?_
      simp only [Act.put, List.setIfInBounds_toArray, List.set_cons_zero, List.set_cons_succ]
    case' h64 =>
      simp only [Act.put, List.setIfInBounds_toArray, List.set_cons_zero, List.set_cons_succ]
      refine any_one (i := 4) rfl rfl (by kernel_rfl) (exec_load 77 (.tmp 40) rfl (RUN4.out _ (d2a _))) ?_
      simp only [Act.put, List.setIfInBounds_toArray, List.set_cons_zero, List.set_cons_succ]
  all_goals
    refine any_one_wp (i := 7) rfl rfl (by kernel_rfl) (fun K hK => ?_)
    refine wp_append_at _ _ 77 rfl B 85 (.agg (wcell (0, zero32)).toArray) 33 40 Tryd.underlying77 (by kernel_rfl) rfl (by decide) pv _ _ rfl (OWN2.out.drew.alloc _) ⟨w2.heap.size, 0, none⟩ 1 1 (wcell (i, pad32 l)) rfl (by rw [HWL.out]) ?_ (wcell_one _) ?_ ?_ ?_ ?_
    · intro j u hj
      rw [Addr.add_mid]
      have := (Blk.new w2.drew 85 (wcell (i, pad32 l)).toArray).cell (0 + j)
      exact this.trans (by simpa using hj)
    · have : D.deed.2.pend.length = D.pend.length := by unfold DM.deed; split <;> rfl
      omega
    · have : D.deed.2.pend.length = D.pend.length := by unfold DM.deed; split <;> rfl
      omega
    · have := hB2.size
      have := hu1.size
      have := HE.out.hB
      simp
      omega
    intro v' w3 hown3 hgr3 hat3
    have hdp : D.deed.2.pend = D.pend := by unfold DM.deed; split <;> rfl
    obtain ⟨⟨x2, fx2⟩, hfin, huu⟩ := write_fin B O w w1 w2 w3 b m pv v' D.deed.2 (i, pad32 l) _ hu1 h1 h2 h3 h4 h5 h6 (by rw [hdp]; exact hpn) (pad32_length l hlen) hB2 B3.out M3.out OWN2.out hown3 hgr3 hat3 HE.out.hB
    obtain ⟨A', c', rfl⟩ := own_shape hown3
    refine hK _ _ ?_
    simp only [Act.put, List.setIfInBounds_toArray, List.set_cons_zero, List.set_cons_succ]
    have HFIN := Lib.hid hfin
    have HUU := Lib.hid huu
    clear hat3 hown3 hgr3 hfin huu hdp
    refine any_take (i := 8) (.pointer (some ⟨b, 0, none⟩)) rfl (by kernel_rfl) (by kernel_rfl) (by kernel_rfl) (fun _ _ _ h => h) (by rfl) (fun W => by go_simp) ?_
    refine any_take (i := 9) (.pointer (some ⟨b, 2, none⟩)) rfl (by kernel_rfl) (by kernel_rfl) (by kernel_rfl) (fun _ _ _ h => h) (by rfl) (fun W => by go_simp) ?_
    simp only [Act.put, List.setIfInBounds_toArray, List.set_cons_zero, List.set_cons_succ]
    refine any_one_skip (i := 10) (w' := w3.setCell ⟨b, 2, none⟩ (.slice A' (D.deed.2.pend.length + 1) c')) rfl rfl (by kernel_rfl) (by go_simp) ?_
    refine wpAny_done (by kernel_rfl) ?_ _
    simp only [Act.put]
    go_wp2
    go_ret
    refine ⟨rfl, ?_, HUU.out⟩
    have hq : D.deed.2.pend = D.pend := by unfold DM.deed; split <;> rfl
    rw [← hq]
    exact HFIN.out

def DM.write (D : DM) (i : Int) (l : List UInt8) : Option Nat × DM :=
  if D.off then (some 1, D)
  else if D.has i = false then (some 0, D)
  else if 32 < l.length then (some 2, D)
  else if D.left = 0 then (some 1, D.deed.2)
  else (none, { D.deed.2 with pend := D.pend ++ [(i, pad32 l)] })

theorem write_err (ea : Nat → Addr) (w : World) (b : Nat) (sz : Int) (off : Bool) (i : Int) (a : Option Addr) (n c : Nat) (g : Nat) (v0 : w.cell? ⟨0, 0, none⟩ = some (ev ea (some 0))) (v1 : w.cell? ⟨1, 0, none⟩ = some (ev ea (some 1))) (v2 : w.cell? ⟨2, 0, none⟩ = some (ev ea (some 2)))
    (c0 : w.cell? ⟨b, 0, none⟩ = some (.int .i64 sz)) (c4 : w.cell? ⟨b, 4, none⟩ = some (.bool off)) (h : (off = true ∧ g = 1) ∨ (off = false ∧ (decide (0 ≤ i) && decide (i < sz)) = false ∧ g = 0) ∨ (off = false ∧ (decide (0 ≤ i) && decide (i < sz)) = true ∧ (32 : Int) < n ∧ g = 2)) :
    Calls Tryd.prog 13 #[.pointer (some ⟨b, 0, none⟩), .int .i64 i, .slice a n c] w fun r w' => r = .returned (ev ea (some g)) ∧ w = w' := by
  have hhas := has_c b i sz w c0
  simp only [ev] at v0 v1 v2 ⊢
  rcases h with ⟨rfl, rfl⟩ | ⟨rfl, hh, rfl⟩ | ⟨rfl, hh, hn, rfl⟩
  · clear hhas
    go_enter Tryd.func13, Tryd.ntmps13
    go_wp2
    go_ret
    exact ⟨rfl, rfl⟩
  · rw [hh] at hhas
    clear hh
    go_enter Tryd.func13, Tryd.ntmps13
    go_wp2_with (go_at_call 51; refine hhas.mono ?_; rintro e w' ⟨rfl, rfl⟩)
    go_ret
    exact ⟨rfl, rfl⟩
  · rw [hh] at hhas
    clear hh
    go_enter Tryd.func13, Tryd.ntmps13
    go_wp2_with (go_at_call 51; refine hhas.mono ?_; rintro e w' ⟨rfl, rfl⟩)
    go_ret
    exact ⟨rfl, rfl⟩

theorem write_dead (ea : Nat → Addr) (B : Nat) (w : World) (b : Nat) (sz : Int) (i : Int) (a : Option Addr) (n c : Nat) (R : World → Prop)
    (c0 : w.cell? ⟨b, 0, none⟩ = some (.int .i64 sz)) (c4 : w.cell? ⟨b, 4, none⟩ = some (.bool false)) (hh : (decide (0 ≤ i) && decide (i < sz)) = true) (hn : (n : Int) ≤ 32)
    (hdeed : Calls Tryd.prog 49 #[.pointer (some ⟨b, 0, none⟩)] w fun r w' => r = .returned (ev ea (some 1)) ∧ R w') :
    Calls Tryd.prog 13 #[.pointer (some ⟨b, 0, none⟩), .int .i64 i, .slice a n c] w fun r w' => r = .returned (ev ea (some 1)) ∧ R w' := by
  have hhas := has_c b i sz w c0
  simp only [ev] at hdeed ⊢
  rw [hh] at hhas
  clear hh
  go_enter Tryd.func13, Tryd.ntmps13
  go_wp2_with (first | (go_at_call 51; refine hhas.mono ?_; rintro e w' ⟨rfl, rfl⟩) | (go_at_call 49; refine hdeed.mono ?_; rintro e w' ⟨rfl, hR⟩))
  go_ret
  exact ⟨rfl, hR⟩

theorem write_c (ea : Nat → Addr) (B : Nat) (O : Nat → Prop) (w : World) (b : Nat) (D : DM) (h : DiskIn B O w b D) (hE : Errs ea B w) (i : Int) (v : Value) (l : List UInt8) (hv : BytesR w v l) (hvb : 0 < l.length → v.ownBlock ≠ some b)
    (hd : D.deeds < 4611686018427387900) (hpn : D.pend.length < 999999) :
    Calls Tryd.prog 13 #[.pointer (some ⟨b, 0, none⟩), .int .i64 i, v] w fun r w' => r = .returned (ev ea (D.write i l).1) ∧ (∃ O', DiskIn B O' w' b (D.write i l).2 ∧ ∀ k, O' k → O k ∨ w.heap.size ≤ k) ∧ Upd O w w' := by
  have h' := h
  obtain ⟨m, pv, h1, h2, h3, h4, h5, h6, h7, h8, h9⟩ := h
  have c0 : w.cell? ⟨b, 0, none⟩ = some (.int .i64 D.size) := h7.cell 0
  have c4 : w.cell? ⟨b, 4, none⟩ = some (.bool D.off) := h7.cell 4
  have v0 := hE.var 0 (by omega)
  have v1 := hE.var 1 (by omega)
  have v2 := hE.var 2 (by omega)
  have hv' := hv
  obtain ⟨a, c, rfl, _⟩ := hv'
  have same : ∀ g, Calls Tryd.prog 13 #[.pointer (some ⟨b, 0, none⟩), .int .i64 i, .slice a l.length c] w (fun r w' => r = .returned (ev ea (some g)) ∧ w = w') → D.write i l = (some g, D) →
      Calls Tryd.prog 13 #[.pointer (some ⟨b, 0, none⟩), .int .i64 i, .slice a l.length c] w fun r w' => r = .returned (ev ea (D.write i l).1) ∧ (∃ O', DiskIn B O' w' b (D.write i l).2 ∧ ∀ k, O' k → O k ∨ w.heap.size ≤ k) ∧ Upd O w w' := by
    intro g hc e
    rw [e]
    exact hc.mono (by rintro r w' ⟨rfl, rfl⟩; exact ⟨rfl, ⟨O, h', fun k hk => .inl hk⟩, Upd.refl _ _⟩)
  cases hoff : D.off with
  | true =>
    rw [hoff] at c4
    exact same 1 (write_err ea w b D.size true i a l.length c 1 v0 v1 v2 c0 c4 (.inl ⟨rfl, rfl⟩)) (by simp [DM.write, hoff])
  | false =>
    rw [hoff] at c4
    cases hh : D.has i with
    | false => exact same 0 (write_err ea w b D.size false i a l.length c 0 v0 v1 v2 c0 c4 (.inr (.inl ⟨rfl, hh, rfl⟩))) (by simp [DM.write, hoff, hh])
    | true =>
      by_cases hl : 32 < l.length
      · exact same 2 (write_err ea w b D.size false i a l.length c 2 v0 v1 v2 c0 c4 (.inr (.inr ⟨rfl, hh, by omega, rfl⟩))) (by simp [DM.write, hoff, hh, hl])
      · by_cases hz : D.left = 0
        · have hdeed := deed_c ea B O w b D h' hE hd
          have e1 : D.deed.1 = some 1 := by simp [DM.deed, hz]
          rw [e1] at hdeed
          have e2 : D.write i l = (some 1, D.deed.2) := by simp [DM.write, hoff, hh, hl, hz]
          rw [e2]
          refine (write_dead ea B w b D.size i a l.length c _ c0 c4 hh (by omega) hdeed).mono ?_
          rintro r w' ⟨rfl, hD, hu⟩
          exact ⟨rfl, ⟨O, hD, fun k hk => .inl hk⟩, hu.mono (fun k _ e => by subst e; exact h1)⟩
        · have e2 : D.write i l = (none, { D.deed.2 with pend := D.pend ++ [(i, pad32 l)] }) := by simp [DM.write, hoff, hh, hl, hz]
          rw [e2]
          exact write_ok ea B O w b D h' hE i _ l hv hvb hoff hh (by omega) hz hd hpn
end Go.Proofs.YtlkmpjanchhahaaDoor
