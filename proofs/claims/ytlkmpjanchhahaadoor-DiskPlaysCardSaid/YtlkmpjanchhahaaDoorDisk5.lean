/- The contracts of disk.New, Read and Copy. -/
import Derived.Test.YtlkmpjanchhahaaDoorDisk4
import Derived.Laws.Externs
import Derived.Shelf.SlMaps.Clone
namespace Go.Proofs.YtlkmpjanchhahaaDoor
open Go.RowKit
set_option linter.unusedSimpArgs false
set_option linter.unusedVariables false

theorem new_bad (ea : Nat → Addr) (B : Nat) (w : World) (hE : Errs ea B w) (n : Int) (hn : n < 2 ∨ 4096 < n) :
    Calls Tryd.prog 9 #[.int .i64 n] w fun r w' => r = .returned (.tuple #[.pointer none, ev ea (some 0)]) ∧ Upd (fun _ => False) w w' := by
  have v0 := hE.var 0 (by omega)
  simp only [ev]
  clear hE
  rcases hn with hn | hn
  · go_enter Tryd.func9, Tryd.ntmps9
    go_wp2
    go_quiet (fail)
    go_wp2
    go_ret2
    exact ⟨rfl, (Upd.refl _ _).drewN _⟩
  · have hn' : 2 ≤ n := by omega
    go_enter Tryd.func9, Tryd.ntmps9
    go_wp2
    go_quiet (fail)
    go_wp2
    go_ret2
    exact ⟨rfl, (Upd.refl _ _).drewN _⟩

def DM.new (n : Int) : DM := { size := n, safe := [], pend := [], left := -1, off := false, deeds := 0 }

theorem new_ok (B : Nat) (w : World) (n : Int) (h2 : 2 ≤ n) (h4 : n ≤ 4096) (hB : B ≤ w.heap.size) :
    Calls Tryd.prog 9 #[.int .i64 n] w fun r w' => ∃ b, r = .returned (.tuple #[.pointer (some ⟨b, 0, none⟩), .nilIface]) ∧ DiskIn B (fun k => w.heap.size ≤ k ∧ k < w'.heap.size) w' b (DM.new n) ∧ Upd (fun _ => False) w w' := by
  suffices Calls Tryd.prog 9 #[.int .i64 n] w fun r w' => r = .returned (.tuple #[.pointer (some ⟨w.heap.size + 1, 0, none⟩), .nilIface]) ∧ w' = (w.alloc (.map #[] 0)).alloc (.cells #[.int .i64 n, .map (some w.heap.size), .slice none 0 0, .int .i64 (-1), .bool false, .int .i64 0] 79) from
    this.mono (by
      rintro r w' ⟨rfl, rfl⟩
      have hu : Upd (fun _ => False) w ((w.alloc (.map #[] 0)).alloc (.cells #[.int .i64 n, .map (some w.heap.size), .slice none 0 0, .int .i64 (-1), .bool false, .int .i64 0] 79)) := ((Upd.refl _ _).alloc _).alloc _
      have hblk := Blk.new (w.alloc (.map #[] 0)) 79 #[.int .i64 n, .map (some w.heap.size), .slice none 0 0, .int .i64 (-1), .bool false, .int .i64 0]
      have hm : MapAt ((w.alloc (.map #[] 0)).alloc (.cells #[.int .i64 n, .map (some w.heap.size), .slice none 0 0, .int .i64 (-1), .bool false, .int .i64 0] 79)) w.heap.size [] :=
        (MapAt.new w).upd (S := fun _ => False) ((Upd.refl _ _).alloc _) (fun h => h)
      rw [show (w.alloc (.map #[] 0)).heap.size = w.heap.size + 1 by simp] at hblk
      refine ⟨_, rfl, ⟨w.heap.size, .slice none 0 0, ?_, ?_, (fun k hk => by simp [Value.ownBlock] at hk), (fun k hk => by omega), (fun k hk => hk.2), ?_, hblk, hm, World.ownsRow_nil _ _ _ _⟩, hu⟩
      · simp
      · simp; omega
      · exact ⟨by show (0 : Int) ≤ 0; omega, by show (0 : Int) < _; omega, by show (-1 : Int) ≤ -1; omega, by show (-1 : Int) ≤ _; omega, by show ([] : List (Int × List UInt8)).length < _; simp, (by intro p hp; cases hp), (by intro p hp; cases hp)⟩)
  have hmm := @run_makeMap Tryd.prog
  go_enter Tryd.func9, Tryd.ntmps9
  go_wp2
  go_ret2
  exact ⟨rfl, rfl⟩

theorem read_off (ea : Nat → Addr) (b : Nat) (i : Int) (w : World) (v1 : w.cell? ⟨1, 0, none⟩ = some (ev ea (some 1))) (c4 : w.cell? ⟨b, 4, none⟩ = some (.bool true)) :
    Calls Tryd.prog 19 #[.pointer (some ⟨b, 0, none⟩), .int .i64 i] w fun r w' => r = .returned (.tuple #[.slice none 0 0, ev ea (some 1)]) ∧ Upd (fun _ => False) w w' := by
  simp only [ev] at v1 ⊢
  go_enter Tryd.func19, Tryd.ntmps19
  go_wp2
  go_quiet (fail)
  go_wp2
  go_ret2
  exact ⟨rfl, (Upd.refl _ _).drewN _⟩
theorem read_no (ea : Nat → Addr) (b : Nat) (i n : Int) (w : World) (v0 : w.cell? ⟨0, 0, none⟩ = some (ev ea (some 0))) (c0 : w.cell? ⟨b, 0, none⟩ = some (.int .i64 n)) (c4 : w.cell? ⟨b, 4, none⟩ = some (.bool false)) (hh : (decide (0 ≤ i) && decide (i < n)) = false) :
    Calls Tryd.prog 19 #[.pointer (some ⟨b, 0, none⟩), .int .i64 i] w fun r w' => r = .returned (.tuple #[.slice none 0 0, ev ea (some 0)]) ∧ Upd (fun _ => False) w w' := by
  have hhas := has_c b i n w c0
  rw [hh] at hhas
  simp only [ev] at v0 ⊢
  clear hh
  go_enter Tryd.func19, Tryd.ntmps19
  go_wp2_with (go_at_call 51; refine hhas.mono ?_; rintro e w' ⟨rfl, rfl⟩)
  go_quiet (fail)
  go_wp2
  go_ret2
  exact ⟨rfl, (Upd.refl _ _).drewN _⟩

theorem seen_length {D : DM} (h : D.ok) (i : Int) : (D.seen i).length = 32 := lastOf_length i D.pend _ h.full (mget_length h.sfull i)

theorem read_c (ea : Nat → Addr) (B : Nat) (O : Nat → Prop) (w : World) (b : Nat) (D : DM) (h : DiskIn B O w b D) (hE : Errs ea B w) (i : Int) :
    Calls Tryd.prog 19 #[.pointer (some ⟨b, 0, none⟩), .int .i64 i] w fun r w' => ∃ v, r = .returned (.tuple #[v, ev ea (if D.off then some 1 else if D.has i then none else some 0)]) ∧
      (if D.off = false ∧ D.has i = true then BytesAt w' v (D.seen i) else v = .slice none 0 0) ∧ Upd (fun _ => False) w w' := by
  have h' := h
  obtain ⟨m, pv, h1, h2, h3, h4, h5, h6, h7, h8, h9⟩ := h
  have c0 : w.cell? ⟨b, 0, none⟩ = some (.int .i64 D.size) := h7.cell 0
  have c4 : w.cell? ⟨b, 4, none⟩ = some (.bool D.off) := h7.cell 4
  have v0 := hE.var 0 (by omega)
  have v1 := hE.var 1 (by omega)
  cases hoff : D.off with
  | true =>
    rw [hoff] at c4
    exact (read_off ea b i w v1 c4).mono (by rintro r w' ⟨rfl, hu⟩; exact ⟨_, rfl, by simp, hu⟩)
  | false =>
    rw [hoff] at c4
    cases hh : D.has i with
    | false => exact (read_no ea b i D.size w v0 c0 c4 hh).mono (by rintro r w' ⟨rfl, hu⟩; exact ⟨_, rfl, by simp, hu⟩)
    | true =>
      have hhas := has_c b i D.size w c0
      unfold DM.has at hh
      rw [hh] at hhas
      refine (read_on B b pv i m D.safe D.pend w (h7.cell 1) (h7.cell 2) c4 hhas h8 (mget_length h6.sfull i) h9 h6.full h6.pend).mono ?_
      rintro r w' ⟨rfl, hb, hu⟩
      refine ⟨_, rfl, ?_, hu⟩
      have := seen_length h6 i
      rw [if_pos ⟨rfl, rfl⟩]
      exact ⟨w.heap.size, 82, by rw [this], hb⟩

set_option maxRecDepth 50000 in
/-- maps.Clone: a new block with the old entries. -/
theorem mclone_c (w : World) (m : Nat) (l : List (Int × List UInt8)) (h : MapAt w m l) :
    Calls Tryd.prog 47 #[.map (some m)] w fun r w' => r = .returned (.map (some w.heap.size)) ∧ (∃ o, w' = w.alloc o) ∧ MapAt w' w.heap.size l := by
  obtain ⟨es, c, hb, he⟩ := h
  have hq := fun w => run_eql_map_nil_sl (P := Tryd.prog) w 76 _ _ (some m) Tryd.underlying76
  suffices Calls Tryd.prog 47 #[.map (some m)] w fun r w' => r = .returned (.map (some w.heap.size)) ∧ w' = w.alloc (.map es c) from
    this.mono (by rintro r w' ⟨rfl, rfl⟩; exact ⟨rfl, ⟨_, rfl⟩, es, c, by show (w.heap.push _)[w.heap.size]? = _; simp, he⟩)
  go_enter Tryd.func47, Tryd.ntmps47
  go_wp2
  rw [run_callFunc_extern Tryd.func62 (by kernel_rfl) (by kernel_rfl) (by kernel_rfl) (e := Extern.MapsClone.clone) (by kernel_rfl), run_maps_clone_sl w 76 hb]
  simp only [Result.andThen]
  rw [Oper.upon_value]
  go_wp2
  rw [run_typeAssert_map_sl _ 76 20 _ _ _ Tryd.underlying76]
  simp only [Result.andThen]
  rw [Oper.upon_value]
  go_wp2
  go_ret
  exact ⟨rfl, rfl⟩

theorem run_eql_sl77 (w : World) (A : Option Addr) (n c : Nat) : (binOp .eql 77 (.slice A n c) (.slice none 0 0)).run Tryd.prog w = .ok (.bool A.isNone) w := Lib.run_eql_slice_nil w 77 85 A n c 0 0 Tryd.underlying77
theorem wpl_wp {P : Program} {ops : Array Oper} {rest : List Oper} {o : Oper} {a : Act} {w : World} {Q : Exit → Act → World → Prop} (hg : o.guard = none) (h : ∀ K : Act → World → Prop, (∀ a' w', wpList P ops Q rest a' w' → K a' w') → o.wp P a w K Q) : wpList P ops Q (o :: rest) a w := wpList_plain hg h

theorem sclone_nil (w : World) (n c : Nat) :
    Calls Tryd.prog 48 #[.slice none n c] w fun r w' => r = .returned (.slice none 0 0) ∧ w' = w := by
  have hq := run_eql_sl77
  go_enter Tryd.func48, Tryd.ntmps48
  go_wp2
  go_ret
  exact ⟨rfl, rfl⟩
set_option maxRecDepth 20000 in
/-- slices.Clone of the pending writes: a row of its own. -/
theorem sclone_some (B : Nat) (w : World) (g : Nat) (n c : Nat) (xs : List Value) (h : w.ownsRow B 85 33 (.slice (some ⟨g, 0, none⟩) n c) n xs) (h1 : ∀ u ∈ xs, u.oneCell' = true) (hn : n < 1000000) (hB : B ≤ w.heap.size) :
    Calls Tryd.prog 48 #[.slice (some ⟨g, 0, none⟩) n c] w fun r w' => ∃ v, r = .returned v ∧ w'.ownsRow B 85 33 v n xs ∧ (∀ k, v.ownBlock = some k → w.heap.size ≤ k) ∧ Upd (fun _ => False) w w' := by
  have hq := run_eql_sl77
  have HEMP := Lib.hid (show (w.alloc (.cells #[] 85)).ownsRow B 85 33 (.slice (some ⟨w.heap.size, 0, none⟩) 0 0) 0 [] from
    ⟨rfl, .inr ⟨w.heap.size, 0, #[], rfl, hB, Blk.new w 85 #[], Nat.le_refl _, Nat.zero_le _, rfl, rfl⟩⟩)
  have HLEN := Lib.hid h.1
  have HNEWS := Lib.hid (show ∀ j u, xs[j]? = some u → (w.alloc (.cells #[] 85)).cell? ((⟨g, 0, none⟩ : Addr).add j) = some u from fun j u hj =>
    have h1 := h.cells (g := g) rfl j u hj
    (World.cell?_alloc_lt w _ _ (World.block_lt_of_cell? w _ h1)).trans h1)
  have H1 := Lib.hid h1
  have HB := Lib.hid hB
  clear h h1 hB
  go_enter Tryd.func48, Tryd.ntmps48
  go_wp2_with (refine wpl_wp rfl (fun K hK => wp_append_at _ _ 77 rfl B 85 (.agg (wcell (0, zero32)).toArray) 33 40 Tryd.underlying77 (by kernel_rfl) rfl (by decide) (.slice (some ⟨w.heap.size, 0, none⟩) 0 0) 0 [] rfl HEMP.out ⟨g, 0, none⟩ n c xs rfl HLEN.out HNEWS.out H1.out (by omega) (by omega) (by have := HB.out; simp; omega) ?_))
  intro v' w' hown hgr hat
  refine hK _ _ ?_
  have hu : Upd (fun _ => False) w w' := ((Upd.refl _ w).alloc _).grown hgr (fun k e hk => by
    have e' : w.heap.size = k := by injection e
    omega)
  have hfin : ∃ v, (Ending.returned v' : Ending) = .returned v ∧ w'.ownsRow B 85 33 v n xs ∧ (∀ k, v.ownBlock = some k → w.heap.size ≤ k) ∧ Upd (fun _ => False) w w' := by
    refine ⟨v', rfl, by simpa using hown, fun k hk => ?_, hu⟩
    rcases hat with h | h
    · rw [h] at hk
      have e' : w.heap.size = k := by injection hk
      omega
    · rw [h] at hk
      have e' : w.heap.size + 1 = k := by injection hk
      omega
  have HFIN := Lib.hid hfin
  clear hfin hu hgr hat hown
  go_wp2
  go_ret
  exact HFIN.out
theorem wcells_one (l : List (Int × List UInt8)) : ∀ v ∈ wcells l, v.oneCell' = true := by
  intro v hv
  simp only [wcells, List.mem_flatten, List.mem_map] at hv
  obtain ⟨_, ⟨p, _, rfl⟩, hp⟩ := hv
  exact wcell_one p v hp
/-- slices.Clone of the pending writes: a row of its own. -/
theorem sclone_c (B : Nat) (w : World) (pv : Value) (l : List (Int × List UInt8)) (h : w.ownsRow B 85 33 pv l.length (wcells l)) (hn : l.length < 1000000) (hB : B ≤ w.heap.size) :
    Calls Tryd.prog 48 #[pv] w fun r w' => ∃ v, r = .returned v ∧ w'.ownsRow B 85 33 v l.length (wcells l) ∧ (∀ k, v.ownBlock = some k → w.heap.size ≤ k) ∧ Upd (fun _ => False) w w' := by
  obtain ⟨A, c, rfl⟩ := own_shape h
  cases A with
  | none =>
    refine (sclone_nil w l.length c).mono ?_
    rintro r w' ⟨rfl, rfl⟩
    have h0 : l.length = 0 := by
      rcases h.2 with ⟨_, h0⟩ | ⟨g, cap, cur, e, _⟩
      · exact h0
      · cases e
    exact ⟨_, rfl, ⟨h.1, .inl ⟨rfl, h0⟩⟩, (fun k hk => by cases hk), Upd.refl _ _⟩
  | some ad =>
    have : ad = ⟨ad.block, 0, none⟩ := by
      rcases h.2 with ⟨e, _⟩ | ⟨g, cap, cur, e, _⟩
      · cases e
      · injection e with e1; injection e1 with e1; rw [e1]
    rw [this] at h ⊢
    exact sclone_some B w ad.block l.length c (wcells l) h (wcells_one l) hn hB

def DM.copyOf (D : DM) : DM := D
theorem copy_fin (B : Nat) (w w0 w1 w2 : World) (D : DM) (o : Obj) (m : Nat) (pv pv' : Value) (hok : D.ok) (hBw : B ≤ w.heap.size)
    (e0 : w0 = (w.alloc (.cells #[.int .i64 D.size, .map (some m), pv, .int .i64 D.left, .bool D.off, .int .i64 D.deeds] 79)).drew) (e1 : w1 = w0.alloc o) (hm : MapAt w1 w0.heap.size D.safe)
    (hu2 : Upd (fun _ => False) w1 w2) (hown : w2.ownsRow B 85 33 pv' D.pend.length (wcells D.pend)) (hnew : ∀ k, pv'.ownBlock = some k → w1.heap.size ≤ k) :
    Blk w2 w.heap.size 79 #[.int .i64 D.size, .map (some m), pv, .int .i64 D.left, .bool D.off, .int .i64 D.deeds] ∧
    ∃ W, W = (w2.setCell ⟨w.heap.size, 1, none⟩ (.map (some (w.heap.size + 1)))).setCell ⟨w.heap.size, 2, none⟩ pv' ∧ DiskIn B (fun k => w.heap.size ≤ k ∧ k < W.heap.size) W w.heap.size D ∧ Upd (fun _ => False) w W := by
  have hs0 : w0.heap.size = w.heap.size + 1 := by rw [e0]; simp
  have hs1 : w1.heap.size = w.heap.size + 2 := by rw [e1]; simp [hs0]
  rw [hs0] at hm
  have hb0 : Blk w0 w.heap.size 79 #[.int .i64 D.size, .map (some m), pv, .int .i64 D.left, .bool D.off, .int .i64 D.deeds] := by rw [e0]; exact Blk.new _ _ _
  have hb1 : Blk w1 w.heap.size 79 #[.int .i64 D.size, .map (some m), pv, .int .i64 D.left, .bool D.off, .int .i64 D.deeds] := by rw [e1]; exact hb0.alloc o
  have hb2 := hb1.upd hu2 (fun h => h)
  have hs2 := hu2.size
  have hsz : ∀ (p : Addr) (u : Value) (W : World), (W.setCell p u).heap.size = W.heap.size := fun p u W => World.size_setCell _ _ _
  have hu0 : Upd (fun _ => False) w w2 := by
    refine Upd.then (S := fun _ => False) (T := fun _ => False) ?_ hu2 (fun _ _ h => h)
    rw [e1, e0]
    exact (((Upd.refl _ w).alloc _).drew).alloc _
  have hnp : ∀ k, pv'.ownBlock = some k → k < w2.heap.size := fun k hk => by
    rcases hown.2 with ⟨e, _⟩ | ⟨g, cap, cur, e, _, hg, _⟩
    · rw [e] at hk; cases hk
    · rw [e] at hk; injection hk with hk
      rw [← hk]
      exact (Array.getElem?_eq_some_iff.1 hg).1
  have hS : Upd (fun k => k = w.heap.size) w2 ((w2.setCell ⟨w.heap.size, 1, none⟩ (.map (some (w.heap.size + 1)))).setCell ⟨w.heap.size, 2, none⟩ pv') :=
    ((Upd.refl (fun k => k = w.heap.size) w2).setCell (p := ⟨w.heap.size, 1, none⟩) (fun _ => rfl) _).setCell (p := ⟨w.heap.size, 2, none⟩) (fun _ => rfl) _
  refine ⟨hb2, _, rfl, ⟨w.heap.size + 1, pv', ?_, ?_, ?_, ?_, ?_, hok, ?_, ?_, ?_⟩, ?_⟩
  · rw [hsz, hsz]; exact ⟨Nat.le_refl _, by omega⟩
  · rw [hsz, hsz]; exact ⟨by omega, by omega⟩
  · intro k hk; rw [hsz, hsz]; exact ⟨by have := hnew k hk; omega, hnp k hk⟩
  · intro k hk; omega
  · intro k hk; exact hk.2
  · exact (hb2.set 1 _).set 2 _
  · exact (hm.upd hu2 (fun h => h)).upd hS (by omega)
  · refine ownsRow_upd hown hS ?_
    intro k hk e
    have := hnew k hk
    omega
  · refine hu0.then (T := fun k => k = w.heap.size) hS ?_
    intro k hk e
    omega

set_option maxRecDepth 20000 in
theorem copy_c (B : Nat) (O : Nat → Prop) (w : World) (b : Nat) (D : DM) (h : DiskIn B O w b D) (hBw : B ≤ w.heap.size) :
    Calls Tryd.prog 11 #[.pointer (some ⟨b, 0, none⟩)] w fun r w' => ∃ b', r = .returned (.pointer (some ⟨b', 0, none⟩)) ∧ DiskIn B (fun k => w.heap.size ≤ k ∧ k < w'.heap.size) w' b' D ∧ Upd (fun _ => False) w w' := by
  obtain ⟨m, pv, h1, h2, h3, h4, h5, h6, h7, h8, h9⟩ := h
  have c1 : w.cell? ⟨b, 1, none⟩ = some (.map (some m)) := h7.cell 1
  have c2 : w.cell? ⟨b, 2, none⟩ = some pv := h7.cell 2
  obtain ⟨A, c, rfl⟩ := own_shape h9
  have r0 : w.rangeAt b 0 [.int .i64 D.size, .map (some m), .slice A D.pend.length c, .int .i64 D.left, .bool D.off, .int .i64 D.deeds] := h7.range 0 6
  have R0 := Lib.hid r0
  have H6 := Lib.hid h6
  have H8 := Lib.hid h8
  have H9 := Lib.hid h9
  clear r0 h6 h8 h9
  go_enter Tryd.func11, Tryd.ntmps11
  go_wp2_with (first
    | (refine wpl_load rfl 79 _ rfl b 0 rfl _ _ R0.out Tryd.underlying79 rfl (by kernel_rfl) ?_)
    | (refine wpl_store_new rfl 79 _ _ rfl w [.int .i64 0, .map none, .slice none 0 0, .int .i64 0, .bool false, .int .i64 0] 79 rfl rfl [.int .i64 D.size, .map (some m), .slice A D.pend.length c, .int .i64 D.left, .bool D.off, .int .i64 D.deeds] rfl rfl (by kernel_rfl) (by simp [Value.oneCell']) ?_))
  refine wp_region_any (by kernel_rfl) ?_
  change wpAny _ _ _ _ _ _ _ (World.drew _)
  have t1 : ∀ W : World, W.cell? ⟨b, 1, none⟩ = some (.map (some m)) → (Instr.loadAt 76 (.pointer (some ⟨b, 1, none⟩))).run Tryd.prog W = .ok (.map (some m)) W := fun W hW => by go_simp
  have t2 : ∀ W : World, W.cell? ⟨b, 2, none⟩ = some (.slice A D.pend.length c) → (Instr.loadAt 77 (.pointer (some ⟨b, 2, none⟩))).run Tryd.prog W = .ok (.slice A D.pend.length c) W := fun W hW => by go_simp
  have T1 := Lib.hid t1
  have T2 := Lib.hid t2
  clear t1 t2
  refine any_take (i := 0) (.pointer (some ⟨b, 0, none⟩)) rfl (by kernel_rfl) (by kernel_rfl) (by kernel_rfl) (fun _ _ _ h => h) (by rfl) (fun W => by go_simp) ?_
  refine any_take (i := 1) (.pointer (some ⟨b, 0, none⟩)) rfl (by kernel_rfl) (by kernel_rfl) (by kernel_rfl) (fun _ _ _ h => h) (by rfl) (fun W => by go_simp) ?_
  refine any_take (i := 2) (.pointer (some ⟨b, 1, none⟩)) rfl (by kernel_rfl) (by kernel_rfl) (by kernel_rfl) (fun _ _ _ h => h) (by rfl) (fun W => by go_simp) ?_
  refine any_take (i := 5) (.pointer (some ⟨b, 0, none⟩)) rfl (by kernel_rfl) (by kernel_rfl) (by kernel_rfl) (fun _ _ _ h => h) (by rfl) (fun W => by go_simp) ?_
  refine any_take (i := 6) (.pointer (some ⟨b, 0, none⟩)) rfl (by kernel_rfl) (by kernel_rfl) (by kernel_rfl) (fun _ _ _ h => h) (by rfl) (fun W => by go_simp) ?_
  refine any_take (i := 7) (.pointer (some ⟨b, 2, none⟩)) rfl (by kernel_rfl) (by kernel_rfl) (by kernel_rfl) (fun _ _ _ h => h) (by rfl) (fun W => by go_simp) ?_
  simp only [Act.put, List.setIfInBounds_toArray, List.set_cons_zero, List.set_cons_succ]
  obtain ⟨w0, e0⟩ : ∃ w0, w0 = (w.alloc (.cells #[.int .i64 D.size, .map (some m), .slice A D.pend.length c, .int .i64 D.left, .bool D.off, .int .i64 D.deeds] 79)).drew := ⟨_, rfl⟩
  rw [← e0]
  have u0 : Upd (fun _ => False) w w0 := by rw [e0]; exact ((Upd.refl _ w).alloc _).drew
  have d1 : w0.cell? ⟨b, 1, none⟩ = some (.map (some m)) := u0.cell c1 (fun h => h)
  have d2 : w0.cell? ⟨b, 2, none⟩ = some (.slice A D.pend.length c) := u0.cell c2 (fun h => h)
  have hm := mclone_c w0 m D.safe (H8.out.upd u0 (fun h => h))
  have HM := Lib.hid hm
  have E0 := Lib.hid e0
  clear hm e0 c1 c2
  refine any_two_wp (i := 3) (j := 8) rfl rfl rfl rfl (by kernel_rfl) (fun K hK => wp_run (exec_load 76 (.tmp 9) rfl (T1.out w0 d1)) (hK _ _ ?h3)) (fun K hK => wp_run (exec_load 77 (.tmp 14) rfl (T2.out w0 d2)) (hK _ _ ?h8))
  case' h3 =>
    simp only [Act.put, List.setIfInBounds_toArray, List.set_cons_zero, List.set_cons_succ]
    refine any_two_wp (i := 4) (j := 8) rfl rfl rfl rfl (by kernel_rfl) (fun K hK => wp_calls 47 _ _ rfl Tryd.f47 Tryd.func47 (by kernel_rfl) (by kernel_rfl) #[.map (some m)] (by simp [Act.eval]) HM.out (fun e w1 he => ⟨_, he.1, hK _ _ ?h34⟩)) (fun K hK => wp_run (exec_load 77 (.tmp 14) rfl (T2.out w0 d2)) (hK _ _ ?h38))
    case' h34 =>
      obtain ⟨o, e1⟩ := he.2.1
      have f2 : w1.cell? ⟨b, 2, none⟩ = some (.slice A D.pend.length c) := by rw [e1]; exact ((Upd.refl (fun _ => False) w0).alloc o).cell d2 (fun h => h)
      simp only [Act.put, List.setIfInBounds_toArray, List.set_cons_zero, List.set_cons_succ]
      refine any_one_wp (i := 8) rfl rfl (by kernel_rfl) (fun K hK => wp_run (exec_load 77 (.tmp 14) rfl (T2.out w1 f2)) (hK _ _ ?_))
    case' h38 =>
      simp only [Act.put, List.setIfInBounds_toArray, List.set_cons_zero, List.set_cons_succ]
      refine any_one_wp (i := 4) rfl rfl (by kernel_rfl) (fun K hK => wp_calls 47 _ _ rfl Tryd.f47 Tryd.func47 (by kernel_rfl) (by kernel_rfl) #[.map (some m)] (by simp [Act.eval]) HM.out (fun e w1 he => ⟨_, he.1, hK _ _ ?_⟩))
      obtain ⟨o, e1⟩ := he.2.1
  case' h8 =>
    simp only [Act.put, List.setIfInBounds_toArray, List.set_cons_zero, List.set_cons_succ]
    refine any_one_wp (i := 3) rfl rfl (by kernel_rfl) (fun K hK => wp_run (exec_load 76 (.tmp 9) rfl (T1.out w0 d1)) (hK _ _ ?_))
    simp only [Act.put, List.setIfInBounds_toArray, List.set_cons_zero, List.set_cons_succ]
    refine any_one_wp (i := 4) rfl rfl (by kernel_rfl) (fun K hK => wp_calls 47 _ _ rfl Tryd.f47 Tryd.func47 (by kernel_rfl) (by kernel_rfl) #[.map (some m)] (by simp [Act.eval]) HM.out (fun e w1 he => ⟨_, he.1, hK _ _ ?_⟩))
    obtain ⟨o, e1⟩ := he.2.1
  all_goals
    have u1 : Upd (fun _ => False) w w1 := by rw [e1]; exact u0.alloc o
    have hmm := he.2.2
    have hs := sclone_c B w1 (.slice A D.pend.length c) D.pend (ownsRow_upd H9.out u1 (fun _ _ h => h)) H6.out.pend (Nat.le_trans hBw u1.size)
    simp only [Act.put, List.setIfInBounds_toArray, List.set_cons_zero, List.set_cons_succ]
    refine any_one_wp (i := 9) rfl rfl (by kernel_rfl) (fun K hK => wp_calls 48 _ _ rfl Tryd.f48 Tryd.func48 (by kernel_rfl) (by kernel_rfl) #[.slice A D.pend.length c] (by simp [Act.eval]) hs (fun e2 w2 he2 => ?_))
    obtain ⟨v, he2, hown, hnew, hu2⟩ := he2
    obtain ⟨hb2, W, hW, hfin⟩ := copy_fin B w w0 w1 w2 D o m _ v H6.out hBw E0.out e1 hmm hu2 hown hnew
    have x1 : w2.cell? ⟨w.heap.size, 1, none⟩ = some (.map (some m)) := hb2.cell 1
    have f1 : w2.frozen? ⟨w.heap.size, 1, none⟩ = false := hb2.froz 1
    have x2 : w2.cell? ⟨w.heap.size, 2, none⟩ = some (.slice A D.pend.length c) := hb2.cell 2
    have f2 : w2.frozen? ⟨w.heap.size, 2, none⟩ = false := hb2.froz 2
    refine ⟨v, he2, hK _ _ ?_⟩
    have hsz0 : w0.heap.size = w.heap.size + 1 := by rw [E0.out]; simp
    rw [hsz0]
    obtain ⟨A', c', hvs⟩ := own_shape hown
    subst hvs
    have HFIN := Lib.hid hfin
    have HW := Lib.hid hW
    clear hfin hW hown hnew hu2 hs hmm he2 he
    simp only [Act.put, List.setIfInBounds_toArray, List.set_cons_zero, List.set_cons_succ]
    refine any_take (i := 10) (.pointer (some ⟨w.heap.size, 1, none⟩)) rfl (by kernel_rfl) (by kernel_rfl) (by kernel_rfl) (fun _ _ _ h => h) (by rfl) (fun W => by go_simp) ?_
    simp only [Act.put, List.setIfInBounds_toArray, List.set_cons_zero, List.set_cons_succ]
    refine any_one_skip (i := 11) (w' := w2.setCell ⟨w.heap.size, 1, none⟩ (.map (some (w.heap.size + 1)))) rfl rfl (by kernel_rfl) (by go_simp) ?_
    refine any_take (i := 12) (.pointer (some ⟨w.heap.size, 2, none⟩)) rfl (by kernel_rfl) (by kernel_rfl) (by kernel_rfl) (fun _ _ _ h => h) (by rfl) (fun W => by go_simp) ?_
    simp only [Act.put, List.setIfInBounds_toArray, List.set_cons_zero, List.set_cons_succ]
    refine any_one_skip (i := 13) (w' := W) rfl rfl (by kernel_rfl) (by rw [HW.out]; go_simp) ?_
    refine wpAny_done (by kernel_rfl) ?_ _
    simp only [Act.put]
    go_wp2
    go_ret
    exact ⟨_, rfl, HFIN.out⟩
end Go.Proofs.YtlkmpjanchhahaaDoor
