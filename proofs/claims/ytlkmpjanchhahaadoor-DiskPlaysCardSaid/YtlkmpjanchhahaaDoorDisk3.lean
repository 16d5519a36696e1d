/- The contracts of (*disk.Disk).keep, Sync and Crash. -/
import Derived.Test.YtlkmpjanchhahaaDoorDisk2
namespace Go.Proofs.YtlkmpjanchhahaaDoor
open Go.RowKit
set_option linter.unusedSimpArgs false
set_option linter.unusedVariables false

theorem eql82 (x y : List UInt8) (hx : x.length = 32) (hy : y.length = 32) (W : World) : (binOp .eql 82 (.agg (u8s x).toArray) (.agg (u8s y).toArray)).run Tryd.prog W = .ok (.bool (x == y)) W :=
  run_eql_bytes W 82 5 32 Tryd.underlying82 Tryd.underlying5 (fun w => by kernel_rfl) x y hx hy
theorem eqIn82 (x y : List UInt8) (hx : x.length = 32) (hy : y.length = 32) (W : World) : (Op.equalIn 10000 82 (.agg (u8s x).toArray) (.agg (u8s y).toArray)).run Tryd.prog W = .ok (x == y) W :=
  run_equalIn_bytes W 9998 82 5 32 Tryd.underlying82 Tryd.underlying5 (fun w => by kernel_rfl) x y hx hy
theorem guard82 (op : BinOp) (x y : Operand) (a b : Array Value) (W : World) : (eqGuard op 82 x y (.agg a) (.agg b)).run Tryd.prog W = .ok () W := run_eqGuard_agg W op 82 x y a b (by kernel_rfl)

def keepIn (l : List (Int × List UInt8)) (p : Int × List UInt8) : List (Int × List UInt8) := if p.2 = zero32 then mdel l p.1 else mput l p.1 p.2

set_option maxRecDepth 20000 in
theorem keep_raw (b m : Nat) (p : Int × List UInt8) (hp : p.2.length = 32) (l : List (Int × List UInt8)) (w : World) (c1 : w.cell? ⟨b, 1, none⟩ = some (.map (some m))) (hm : MapAt w m l) :
    Calls Tryd.prog 50 #[.pointer (some ⟨b, 0, none⟩), .agg (wcell p).toArray] w fun r w' => r = .returned (.tuple #[]) ∧ MapAt w' m (keepIn l p) ∧ Upd (fun k => k = m) w w' := by
  obtain ⟨x, s⟩ := p
  have hs : s.length = 32 := hp
  have hwl : (wcell (x, s)).length = 33 := wcell_length hs
  obtain ⟨W1, hW1⟩ : ∃ W1, W1 = w.alloc (.cells (wcell (x, s)).toArray 85) := ⟨_, rfl⟩
  have hblk : Blk W1 w.heap.size 85 (wcell (x, s)).toArray := by rw [hW1]; exact Blk.new _ _ _
  have hr : W1.rangeAt w.heap.size 1 (u8s s) := by
    have h1 := hblk.range 1 32
    have h2 : ((wcell (x, s)).toArray.toList.drop 1).take 32 = u8s s := by simp [wcell]; rw [List.take_of_length_le (by rw [u8s_length, hs]; exact Nat.le_refl _)]
    rw [h2] at h1
    exact h1
  have c0 : W1.cell? ⟨w.heap.size, 0, none⟩ = some (.int .i64 x) := hblk.cell 0
  have c1' : W1.cell? ⟨b, 1, none⟩ = some (.map (some m)) := by rw [hW1]; exact (World.cell?_alloc_lt _ _ _ (World.block_lt_of_cell? _ _ c1)).trans c1
  have u1 : Upd (fun k => k = m) w W1 := by rw [hW1]; exact (Upd.refl _ _).alloc _
  have hm1 : MapAt W1 m l := by
    rw [hW1]
    exact hm.upd (S := fun _ => False) ((Upd.refl _ _).alloc _) (fun h => h)
  have HM := Lib.hid hm1
  have HS := Lib.hid hs
  have HL := Lib.hid hwl
  have HW := Lib.hid hW1
  have HR := Lib.hid hr
  clear hs hwl hm hm1 hp hblk hr hW1
  have hbq : (s == zero32) = true ∨ (s == zero32) = false := by cases (s == zero32) <;> simp
  have g82 := guard82
  rcases hbq with hbq | hbq
  all_goals
    have E := eqIn82 s zero32 HS.out zero32_length W1
    rw [hbq] at E
    go_enter Tryd.func50, Tryd.ntmps50
    refine wp_seq_k ?_
    intro K0 hK0
    refine wp_region_lit ?_
    refine wpl_box rfl 85 _ rfl (.agg (wcell (x, s)).toArray) rfl ?_
    rw [show (Value.agg (wcell (x, s)).toArray).cells = (wcell (x, s)).toArray from rfl, ← HW.out]
    simp only [Act.put, List.setIfInBounds_toArray, List.set_cons_zero, List.set_cons_succ]
    go_wp2_with (first
      | (refine wpl_load rfl 82 _ rfl w.heap.size 1 rfl (u8s s) _ HR.out Tryd.underlying82 rfl (by rw [u8s_length, HS.out]; exact size82) ?_)
      | (refine wpl_build rfl 82 _ rfl #[] (by simp) _ (build82 _) ?_))
  · refine wp_region_still_tail 6 (by kernel_rfl) (by kernel_rfl) ?_
    simp only [List.take_succ_cons, List.take_zero, List.drop_succ_cons, List.drop_zero]
    change wpStill _ _ (World.drew _) _ _ _
    repeat still_step
    refine wpStill_nil ?_
    change wpList _ _ _ _ _ (World.drew _)
    obtain ⟨w2, hrun, hm2, hu2⟩ := run_del (P := Tryd.prog) (w := W1.drew) (show MapAt W1.drew m l from HM.out) 0 Tryd.underlying76 Tryd.underlying3 x
    refine wpl_val rfl (exec_delete (.tmp 11) (.tmp 13) 76 3 rfl hrun) ?_
    have hk : keepIn l (x, s) = mdel l x := by unfold keepIn; rw [if_pos (by simpa using hbq)]
    have hu : Upd (fun k => k = m) w w2 := (u1.drew).trans hu2
    rw [← hk] at hm2
    have HM2 := Lib.hid hm2
    clear hm2 hu2 hrun hk
    simp only [Act.put]
    go_wp2
    (try simp only [Exit.inBlock, Exit.then]); refine bodyPost_ret (results_none rfl _ _ _) rfl ?_
    exact ⟨rfl, HM2.out, hu⟩
  · refine wp_region_still_tail 8 (by kernel_rfl) (by kernel_rfl) ?_
    simp only [List.take_succ_cons, List.take_zero, List.drop_succ_cons, List.drop_zero]
    change wpStill _ _ (World.drew _) _ _ _
    iterate 7 still_step
    refine still_val rfl (exec_load_many 82 _ rfl w.heap.size 1 rfl (u8s s) _ (show W1.drew.rangeAt w.heap.size 1 (u8s s) from HR.out) Tryd.underlying82 rfl (by rw [u8s_length, HS.out]; exact size82)) ?_
    simp only [Act.put, List.setIfInBounds_toArray, List.set_cons_zero, List.set_cons_succ]
    refine wpStill_nil ?_
    change wpList _ _ _ _ _ (World.drew _)
    obtain ⟨w2, hrun, hm2, hu2⟩ := run_put (P := Tryd.prog) (w := W1.drew) (show MapAt W1.drew m l from HM.out) Tryd.underlying76 Tryd.underlying3 x s
    refine wpl_skip rfl (exec_mapUpdate 76 (.tmp 17) (.tmp 19) (.tmp 21) rfl hrun) ?_
    have hk : keepIn l (x, s) = mput l x s := by unfold keepIn; rw [if_neg (by simpa using hbq)]
    have hu : Upd (fun k => k = m) w w2 := (u1.drew).trans hu2
    rw [← hk] at hm2
    have HM2 := Lib.hid hm2
    clear hm2 hu2 hrun hk
    simp only [Act.put]
    go_wp2
    go_end0
    exact ⟨rfl, HM2.out, hu⟩

theorem mput_full {l : List (Int × List UInt8)} (h : ∀ p ∈ l, p.2.length = 32) (i : Int) (s : List UInt8) (hs : s.length = 32) : ∀ p ∈ mput l i s, p.2.length = 32 := by
  intro p hp
  unfold mput at hp
  split at hp
  · rcases List.mem_or_eq_of_mem_set hp with h1 | rfl
    · exact h p h1
    · exact hs
  · simp at hp
    rcases hp with h1 | rfl
    · exact h p h1
    · exact hs
theorem mdel_full {l : List (Int × List UInt8)} (h : ∀ p ∈ l, p.2.length = 32) (i : Int) : ∀ p ∈ mdel l i, p.2.length = 32 := by
  intro p hp
  unfold mdel at hp
  split at hp
  · exact h p (List.mem_of_mem_eraseIdx hp)
  · exact h p hp
theorem keepIn_full {l : List (Int × List UInt8)} (h : ∀ p ∈ l, p.2.length = 32) (q : Int × List UInt8) (hq : q.2.length = 32) : ∀ p ∈ keepIn l q, p.2.length = 32 := by
  unfold keepIn
  split
  · exact mdel_full h _
  · exact mput_full h _ _ hq
theorem foldl_keep_full (ps : List (Int × List UInt8)) : ∀ (l : List (Int × List UInt8)), (∀ p ∈ l, p.2.length = 32) → (∀ p ∈ ps, p.2.length = 32) → ∀ p ∈ ps.foldl keepIn l, p.2.length = 32 := by
  induction ps with
  | nil => intro l h _; exact h
  | cons q ps ih => intro l h hq; exact ih _ (keepIn_full h q (hq q (by simp))) (fun p hp => hq p (by simp [hp]))

theorem blk_range0 {w : World} {g : Nat} {p : Int × List UInt8} (hp : p.2.length = 32) (h : Blk w g 85 (wcell p).toArray) : w.rangeAt g 0 (wcell p) := by
  have := h.range 0 33
  rw [List.drop_zero, List.take_of_length_le (by simp; rw [wcell_length hp]; exact Nat.le_refl _)] at this
  simpa using this

set_option maxRecDepth 20000 in
set_option maxHeartbeats 1000000 in
/-- Sync where the deed can be done: from the world behind the deed on, all that is pending is kept. -/
theorem sync_on (b : Nat) (w : World) (sf l : List (Int × List UInt8)) (B : Nat) (sz lf dd : Int) (R : Nat → Value → World → Prop)
    (c4 : w.cell? ⟨b, 4, none⟩ = some (.bool false))
    (hdeed : Calls Tryd.prog 49 #[.pointer (some ⟨b, 0, none⟩)] w fun r w1 => r = .returned .nilIface ∧ ∃ m pv, R m pv w1 ∧ Blk w1 b 79 #[.int .i64 sz, .map (some m), pv, .int .i64 lf, .bool false, .int .i64 dd] ∧ MapAt w1 m sf ∧ w1.ownsRow B 85 33 pv l.length (wcells l))
    (hl : ∀ p ∈ l, p.2.length = 32) (hn : l.length < 1000000) :
    Calls Tryd.prog 12 #[.pointer (some ⟨b, 0, none⟩)] w fun r w' => r = .returned .nilIface ∧ ∃ m pv w1, R m pv w1 ∧ MapAt w1 m sf ∧ MapAt w' m (l.foldl keepIn sf) ∧ Upd (fun k => k = m ∨ k = b) w1 w' ∧
      Blk w' b 79 #[.int .i64 sz, .map (some m), .slice none 0 0, .int .i64 lf, .bool false, .int .i64 dd] := by
  obtain ⟨n, hnl⟩ : ∃ n, n = l.length := ⟨_, rfl⟩
  rw [← hnl] at hn
  have HN := Lib.hid hnl
  have HL := Lib.hid hl
  clear hnl hl
  go_enter Tryd.func12, Tryd.ntmps12
  go_wp2_with fail
  refine hdeed.mono ?_
  rintro r w1 ⟨rfl, m, pv, hR, h7, h8, h9⟩
  obtain ⟨A, c, rfl⟩ := own_shape h9
  have hmb : m ≠ b := h8.ne h7
  have hrm := own_ne_map h9 h8
  have c2 : w1.cell? ⟨b, 2, none⟩ = some (.slice A l.length c) := h7.cell 2
  have H9 := Lib.hid h9
  have H7 := Lib.hid h7
  have H8 := Lib.hid h8
  have HR := Lib.hid hR
  rw [← HN.out] at c2
  clear h9 h7 h8 hR hdeed c4
  go_wp2_with fail
  go_loopg [21] n (fun k p wr => ∃ j : Nat, p = .int .i64 j ∧ j + k = n ∧ MapAt wr m ((l.take j).foldl keepIn sf) ∧ Upd (fun k => k = m) w1 wr)
  case atStart => exact ⟨0, rfl, by omega, H8.out, Upd.refl _ _⟩
  case round =>
    obtain ⟨j, rfl, hj, hmap, hupd⟩ := hrel
    have HU := Lib.hid hupd
    have HMAP := Lib.hid hmap
    have hb7 : Blk wr b 79 #[.int .i64 sz, .map (some m), .slice A n c, .int .i64 lf, .bool false, .int .i64 dd] := by rw [HN.out]; exact H7.out.upd hupd (fun e => hmb e.symm)
    have HB7 := Lib.hid hb7
    by_cases hlt : j < n
    · have hjl : j < l.length := by rw [← HN.out]; exact hlt
      obtain ⟨g, hA⟩ : ∃ g, A = some ⟨g, 0, none⟩ := by
        rcases H9.out.2 with ⟨e, h0⟩ | ⟨g, cap, cur, e, _⟩
        · omega
        · injection e with e1; exact ⟨g, e1⟩
      subst hA
      have hrg : wr.rangeAt g (j * 33) (wcell l[j]) := row_range (ownsRow_upd H9.out hupd (fun k hk e => hrm (by rw [hk, e]))) HL.out j hjl
      have hp32 := HL.out l[j] (List.getElem_mem hjl)
      have htake : l.take (j + 1) = l.take j ++ [l[j]] := by rw [List.take_succ_eq_append_getElem hjl]
      obtain ⟨p, hxs⟩ : ∃ q, q = l[j] := ⟨_, rfl⟩
      rw [← hxs] at hrg hp32 htake
      have HT := Lib.hid htake
      have HP := Lib.hid hp32
      have hwl : (wcell p).length = 33 := wcell_length hp32
      have HLW := Lib.hid hwl
      have hblk : Blk (wr.alloc (.cells (wcell p).toArray 85)) wr.heap.size 85 (wcell p).toArray := Blk.new _ _ _
      have hrg2 := blk_range0 hp32 hblk
      have hmap2 : MapAt (wr.alloc (.cells (wcell p).toArray 85)) m ((l.take j).foldl keepIn sf) := hmap.upd (S := fun _ => False) ((Upd.refl _ _).alloc _) (fun h => h)
      have hk := keep_raw b m p hp32 _ (wr.alloc (.cells (wcell p).toArray 85)) ((hb7.alloc _).cell 1) hmap2
      have hua : Upd (fun k => k = m) w1 (wr.alloc (.cells (wcell p).toArray 85)) := hupd.alloc _
      have HUA := Lib.hid hua
      clear hxs htake hp32 hwl hblk hupd hmap hmap2 hb7 hua
      go_wp2_with (first
        | (refine wpl_load rfl 85 _ rfl g (j * 33) rfl (wcell p) _ hrg Tryd.underlying85 rfl (by rw [HLW.out]; exact size85) ?_)
        | (refine wpl_load rfl 85 _ rfl wr.heap.size 0 rfl (wcell p) _ hrg2 Tryd.underlying85 rfl (by rw [HLW.out]; exact size85) ?_)
        | (refine wpl_alloc rfl 85 rfl _ (zero85 _) ?_)
        | (refine wpl_store_new rfl 85 _ _ rfl wr (wcell (0, zero32)) 85 rfl rfl (wcell p) rfl (by rw [HLW.out, wcell_length (by simp [zero32])]) (by rw [HLW.out]; exact size85) (wcell_one _) ?_)
        | (go_at_call 50; refine hk.mono ?_; rintro r w' ⟨rfl, hm', hu'⟩))
      go_roundg (n - (j + 1))
      case measure => omega
      case rel =>
        refine ⟨j + 1, by go_num, by omega, ?_, HUA.out.trans hu'⟩
        rw [HT.out, List.foldl_append]
        exact hm'
    · have hjn : j = n := by omega
      subst hjn
      have htk : l.take j = l := List.take_of_length_le (by rw [← HN.out]; exact Nat.le_refl _)
      have HT := Lib.hid htk
      have c2' : wr.cell? ⟨b, 2, none⟩ = some (.slice A j c) := hb7.cell 2
      have f2' := hb7.froz 2
      clear htk hb7 hmap hupd
      go_wp2
      go_ret
      have u4 : Upd (fun k => k = b) wr (wr.setCell ⟨b, 2, none⟩ (.slice none 0 0)) := (Upd.refl (fun k => k = b) wr).setCell (p := ⟨b, 2, none⟩) (fun _ => rfl) _
      refine ⟨rfl, m, _, w1, HR.out, H8.out, ?_, ?_, HB7.out.set 2 _⟩
      · rw [← HT.out]; exact HMAP.out.upd u4 hmb
      · exact (HU.out.mono (fun k _ e => .inl e)).trans (u4.mono (fun k _ e => .inr e))

def DM.sync (D : DM) : Option Nat × DM :=
  if D.off then (some 1, D)
  else if D.left = 0 then (some 1, D.deed.2)
  else (none, { D.deed.2 with safe := D.pend.foldl keepIn D.safe, pend := [] })

theorem sync_off (ea : Nat → Addr) (w : World) (b : Nat) (v1 : w.cell? ⟨1, 0, none⟩ = some (ev ea (some 1))) (c4 : w.cell? ⟨b, 4, none⟩ = some (.bool true)) :
    Calls Tryd.prog 12 #[.pointer (some ⟨b, 0, none⟩)] w fun r w' => r = .returned (ev ea (some 1)) ∧ w = w' := by
  simp only [ev] at v1 ⊢
  go_enter Tryd.func12, Tryd.ntmps12
  go_wp2
  go_ret
  exact ⟨rfl, rfl⟩
theorem sync_dead (ea : Nat → Addr) (w : World) (b : Nat) (R : World → Prop) (c4 : w.cell? ⟨b, 4, none⟩ = some (.bool false))
    (hdeed : Calls Tryd.prog 49 #[.pointer (some ⟨b, 0, none⟩)] w fun r w' => r = .returned (ev ea (some 1)) ∧ R w') :
    Calls Tryd.prog 12 #[.pointer (some ⟨b, 0, none⟩)] w fun r w' => r = .returned (ev ea (some 1)) ∧ R w' := by
  simp only [ev] at hdeed ⊢
  go_enter Tryd.func12, Tryd.ntmps12
  go_wp2_with (go_at_call 49; refine hdeed.mono ?_; rintro r w' ⟨rfl, hR⟩)
  go_ret
  exact ⟨rfl, hR⟩

theorem sync_c (ea : Nat → Addr) (B : Nat) (O : Nat → Prop) (w : World) (b : Nat) (D : DM) (h : DiskIn B O w b D) (hE : Errs ea B w) (hd : D.deeds < 4611686018427387900) :
    Calls Tryd.prog 12 #[.pointer (some ⟨b, 0, none⟩)] w fun r w' => r = .returned (ev ea D.sync.1) ∧ DiskIn B O w' b D.sync.2 ∧ Upd O w w' := by
  have h' := h
  obtain ⟨m, pv, h1, h2, h3, h4, h5, h6, h7, h8, h9⟩ := h
  have c4 : w.cell? ⟨b, 4, none⟩ = some (.bool D.off) := h7.cell 4
  have v1 := hE.var 1 (by omega)
  have hdeed := deed_c ea B O w b D h' hE hd
  cases hoff : D.off with
  | true =>
    rw [hoff] at c4
    have e : D.sync = (some 1, D) := by simp [DM.sync, hoff]
    rw [e]
    exact (sync_off ea w b v1 c4).mono (by rintro r w' ⟨rfl, rfl⟩; exact ⟨rfl, h', Upd.refl _ _⟩)
  | false =>
    rw [hoff] at c4
    by_cases hz : D.left = 0
    · have e : D.sync = (some 1, D.deed.2) := by simp [DM.sync, hoff, hz]
      have e1 : D.deed.1 = some 1 := by simp [DM.deed, hz]
      rw [e1] at hdeed
      rw [e]
      refine (sync_dead ea w b _ c4 hdeed).mono ?_
      rintro r w' ⟨rfl, hD, hu⟩
      exact ⟨rfl, hD, hu.mono (fun k _ e => by subst e; exact h1)⟩
    · have e : D.sync = (none, { D.deed.2 with safe := D.pend.foldl keepIn D.safe, pend := [] }) := by simp [DM.sync, hoff, hz]
      have e1 : D.deed.1 = none := by simp [DM.deed, hz]
      have e2 : D.deed.2.pend = D.pend ∧ D.deed.2.safe = D.safe ∧ D.deed.2.off = D.off := by simp [DM.deed, hz]
      rw [e]
      rw [e1] at hdeed
      obtain ⟨q1, q2, q3⟩ := e2
      refine (sync_on b w D.safe D.pend B D.deed.2.size D.deed.2.left D.deed.2.deeds (fun m pv w1 => O m ∧ (∀ k, O k → k < w1.heap.size) ∧ Upd (fun k => k = b) w w1 ∧ D.deed.2.ok) c4 (hdeed.mono ?_) h6.full h6.pend).mono ?_
      · rintro r w1 ⟨rfl, hD1, hu1⟩
        obtain ⟨m, pv, g1, g2, g3, g4, g5, g6, g7, g8, g9⟩ := hD1
        rw [q3, hoff] at g7
        rw [q1] at g9
        rw [q2] at g8
        exact ⟨rfl, m, pv, ⟨g2, g5, hu1, g6⟩, g7, g8, g9⟩
      · rintro r w' ⟨rfl, m, pv, w1, ⟨g2, g5, hu1, gok⟩, gm1, gm, gu, gb⟩
        refine ⟨rfl, ⟨m, .slice none 0 0, h1, g2, (fun k hk => by simp [Value.ownBlock] at hk), h4, (fun k hk => Nat.lt_of_lt_of_le (g5 k hk) gu.size), ?_, ?_, gm, World.ownsRow_nil _ _ _ _⟩, ?_⟩
        · exact ⟨gok.deeds0, gok.deeds1, gok.left0, gok.left1, by simp, by simp, foldl_keep_full _ _ h6.sfull h6.full⟩
        · have : D.deed.2.off = false := by rw [q3, hoff]
          show Blk w' b 79 #[.int .i64 D.deed.2.size, .map (some m), .slice none 0 0, .int .i64 D.deed.2.left, .bool D.deed.2.off, .int .i64 D.deed.2.deeds]
          rw [this]
          exact gb
        · refine (hu1.mono (fun k _ e => by subst e; exact h1)).then gu ?_
          rintro k _ (rfl | rfl)
          · exact g2
          · exact h1
end Go.Proofs.YtlkmpjanchhahaaDoor
