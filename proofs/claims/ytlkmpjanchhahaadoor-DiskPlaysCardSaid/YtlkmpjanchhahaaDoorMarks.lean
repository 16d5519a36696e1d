/- cartagenum.Bytes and Kept: a copy with marked room behind it. -/
import Derived.Test.YtlkmpjanchhahaaDoorRef5
namespace Go.Proofs.YtlkmpjanchhahaaDoor
open Go Go.RowKit
set_option linter.unusedSimpArgs false
set_option linter.unusedVariables false

def marks : List UInt8 := [201, 202, 203, 204, 205, 206]
theorem marks_u8s : u8s marks = [.int .u8 201, .int .u8 202, .int .u8 203, .int .u8 204, .int .u8 205, .int .u8 206] := rfl
/-- A copy of l with its marks. -/
def Marked (s : Nat) (w : World) (v : Value) (l : List UInt8) : Prop := ∃ g c, s ≤ g ∧ v = .slice (some ⟨g, 0, none⟩) l.length c ∧ w.ownsRow s 5 1 (.slice (some ⟨g, 0, none⟩) (l.length + 6) c) (l.length + 6) (u8s (l ++ marks))
theorem Marked.upd {s : Nat} {w w' : World} {v : Value} {l : List UInt8} {S : Nat → Prop} (h : Marked s w v l) (hu : Upd S w w') (hS : ∀ k, S k → k < s) : Marked s w' v l := by
  obtain ⟨g, c, hg, rfl, ho⟩ := h
  refine ⟨g, c, hg, rfl, ownsRow_upd ho hu (fun k hk hs => ?_)⟩
  have e : g = k := by simpa [Value.ownBlock] using hk
  have := hS k hs
  omega
theorem Marked.r {s : Nat} {w : World} {v : Value} {l : List UInt8} (h : Marked s w v l) : BytesR w v l := by
  obtain ⟨g, c, _, rfl, ho⟩ := h
  refine ⟨_, _, rfl, fun hp => ⟨_, rfl, fun j u hj => ?_⟩⟩
  have hjl : j < l.length := by
    have := (List.getElem?_eq_some_iff.1 hj).1
    rwa [u8s_length] at this
  refine ho.cells rfl j u ?_
  unfold u8s at hj ⊢
  rw [List.map_append, List.getElem?_append_left (by simpa using hjl)]
  exact hj

theorem build6 (W : World) : (Instr.buildSlice 33 6 #[(0, .int .u8 201), (1, .int .u8 202), (2, .int .u8 203), (3, .int .u8 204), (4, .int .u8 205), (5, .int .u8 206)]).run Tryd.prog W = .ok (.slice (some ⟨W.heap.size, 0, none⟩) 6 6) (W.alloc (.cells #[.int .u8 201, .int .u8 202, .int .u8 203, .int .u8 204, .int .u8 205, .int .u8 206] 5)) := by go_simp

set_option maxRecDepth 100000 in
set_option maxHeartbeats 1000000 in
theorem bytes_c (w : World) (v : Value) (l : List UInt8) (hv : BytesR w v l) (hnil : ∀ m c, v = .slice none m c → c = 0) (hl : l.length ≤ 100000) :
    Calls Tryd.prog 22 #[v] w fun r w' => ∃ u, r = .returned u ∧ Marked w.heap.size w' u l ∧ Upd (fun _ => False) w w' := by
  obtain ⟨i, hi, hz, hsize, hby⟩ := info_parts (show (Tryd.prog.info? 5).map (fun i => (i.zero, i.size, i.bytes)) = some (some (.int .u8 0), 1, 1) by kernel_rfl)
  obtain ⟨A, c, rfl, hc⟩ := hv
  obtain ⟨n, hn⟩ : ∃ n, n = l.length := ⟨_, rfl⟩
  rw [← hn] at hl hc hnil ⊢
  obtain ⟨w1, hr1, own1, g1⟩ := run_make_own (P := Tryd.prog) w w.heap.size 33 5 i (.int .u8 0) 1 Tryd.underlying33 hi hz hsize .i64 .i64 (n + 6) (by rw [hby]; omega) (by unfold maxLen; omega) (Nat.le_refl _)
  have ecast : ((n + 6 : Nat) : Int) = (n : Int) + 6 := by omega
  rw [ecast] at hr1
  have hu1 : Upd (fun _ => False) w w1 := (Upd.refl _ _).grown g1 (fun k e => by cases e)
  obtain ⟨v5, w5, hr5, own5, g5, at5⟩ := run_append_src (P := Tryd.prog) w1 w.heap.size 33 33 5 i (.int .u8 0) 1 1 Tryd.underlying33 hi hz hsize hby rfl (by decide) _ 0 [] own1 A n c (u8s l) (by rw [u8s_length, Nat.mul_one, hn])
    (fun hp => by obtain ⟨ad, e, h⟩ := hc hp; exact ⟨ad, e, fun j u hj => hu1.cell (h j u hj) (fun h => h)⟩) (fun e => hnil n c (by rw [e])) (u8s_one l) (by unfold maxLen; omega) (by omega) hu1.size
  have hu5 : Upd (fun _ => False) w w5 := hu1.grown g5 (fun k e hk => by
    have e' : w.heap.size = k := by injection e
    omega)
  rw [Nat.zero_add, List.nil_append] at own5
  have hr6 := build6 w5
  have hu6 : Upd (fun _ => False) w (w5.alloc (.cells #[.int .u8 201, .int .u8 202, .int .u8 203, .int .u8 204, .int .u8 205, .int .u8 206] 5)) := hu5.alloc _
  have own6 := ownsRow_upd own5 ((Upd.refl (fun _ => False) w5).alloc (.cells #[.int .u8 201, .int .u8 202, .int .u8 203, .int .u8 204, .int .u8 205, .int .u8 206] 5)) (fun _ _ h => h)
  obtain ⟨v7, w7, hr7, own7, g7, nil7, at7⟩ := run_append_own_at (P := Tryd.prog) (w5.alloc (.cells #[.int .u8 201, .int .u8 202, .int .u8 203, .int .u8 204, .int .u8 205, .int .u8 206] 5)) w.heap.size 33 33 5 i (.int .u8 0) 1 1 Tryd.underlying33 hi hz hsize hby rfl (by decide) v5 n (u8s l) own6
    ⟨w5.heap.size, 0, none⟩ 6 6 (u8s marks) rfl (fun j u hj => by
      rw [Addr.add_mid, Nat.zero_add, (Blk.new w5 5 #[.int .u8 201, .int .u8 202, .int .u8 203, .int .u8 204, .int .u8 205, .int .u8 206]).cell]
      rw [marks_u8s] at hj
      simpa using hj) (u8s_one _) (by unfold maxLen; omega) (by omega) hu6.size
  have hb5 : ∀ k, v5.ownBlock = some k → w.heap.size ≤ k := fun k hk => by
    rcases own5.2 with ⟨rfl, _⟩ | ⟨g, cap, cur, rfl, hb, _⟩
    · simp [Value.ownBlock] at hk
    · have : g = k := by simpa [Value.ownBlock] using hk
      omega
  have hu7 : Upd (fun _ => False) w w7 := hu6.grown g7 (fun k e hk => by have := hb5 k e; omega)
  have hsh : ∃ g c7, w.heap.size ≤ g ∧ v7 = .slice (some ⟨g, 0, none⟩) (n + 6) c7 ∧ n + 6 ≤ c7 := by
    rcases own7.2 with ⟨_, h0⟩ | ⟨g, cap, cur, rfl, hb, _, hcap, _⟩
    · omega
    · exact ⟨g, cap, hb, rfl, hcap⟩
  obtain ⟨g, c7, hg, rfl, hcap⟩ := hsh
  rw [show u8s l ++ u8s marks = u8s (l ++ marks) by simp [u8s]] at own7
  have HR5 := Lib.hid hr5
  have HR7 := Lib.hid hr7
  have HOWN := Lib.hid own7
  have HU7 := Lib.hid hu7
  have HN := Lib.hid hn
  have hcap' : ¬ (c7 : Int) < n := by omega
  have hcap2 : (n : Int) ≤ c7 := by omega
  clear hn hc hnil own1 g1 ecast hu1 hr5 own5 g5 at5 hu5 hr6 hu6 own6 hr7 own7 g7 nil7 at7 hb5 hu7 hi hz hsize hby i
  go_enter Tryd.func22, Tryd.ntmps22
  go_wp2_with (first
    | (at_builtin; refine wpl_val (o := ⟨some 9, _, _, _, _, _⟩) rfl (exec_append (.tmp 7) (.tmp 8) 33 33 rfl HR5.out) ?_)
    | (at_builtin; refine wpl_val (o := ⟨some 11, _, _, _, _, _⟩) rfl (exec_append (.tmp 9) (.tmp 10) 33 33 rfl HR7.out) ?_)
    | fail)
  go_ret
  refine ⟨.slice (some ⟨g, 0, none⟩) n c7, rfl, ⟨g, c7, hg, by rw [HN.out], ?_⟩, HU7.out⟩
  rw [← HN.out]
  exact HOWN.out
theorem mark_at (l : List UInt8) (i : Nat) (h : i < 6) : (u8s (l ++ marks))[l.length + i]? = some (.int .u8 (201 + i : Int)) := by
  unfold u8s
  rw [List.map_append, List.getElem?_append_right (by simp)]
  simp only [List.length_map, Nat.add_sub_cancel_left]
  have : i = 0 ∨ i = 1 ∨ i = 2 ∨ i = 3 ∨ i = 4 ∨ i = 5 := by omega
  rcases this with rfl | rfl | rfl | rfl | rfl | rfl <;> rfl

set_option maxRecDepth 100000 in
set_option maxHeartbeats 1000000 in
theorem kept_c (s : Nat) (w : World) (v wv : Value) (l : List UInt8) (h : Marked s w v l) (hw : BytesR w wv l) (hl : l.length ≤ 100000) :
    Calls Tryd.prog 24 #[v, wv] w fun r w' => r = .returned (.bool true) ∧ w' = w.drew := by
  have hv := h.r
  obtain ⟨g, c, hg, rfl, ho⟩ := h
  obtain ⟨n, hn⟩ : ∃ n, n = l.length := ⟨_, rfl⟩
  have hW := hw
  obtain ⟨A, wc, rfl, _⟩ := hw
  have hcap : n + 6 ≤ c := by
    rcases ho.2 with ⟨e, _⟩ | ⟨g', cap, cur, e, hb, _, hcap, _⟩
    · cases e
    · injection e with _ _ e3
      omega
  have hmk : ∀ i, i < 6 → w.drew.cell? ⟨g, n + i, none⟩ = some (.int .u8 (201 + i : Int)) := fun i hi => by
    have := ho.cells (g := g) rfl (n + i) _ (by rw [hn]; exact mark_at l i hi)
    rwa [Addr.add_mid, Nat.zero_add] at this
  have hb2 : BytesR w.drew (.slice (some ⟨g, 0, none⟩) n c) l := by rw [hn]; exact hv.upd (Upd.refl (fun _ => False) w).drew (fun _ _ h => h)
  have hb1 : BytesR w.drew (.slice A n wc) l := by rw [hn]; exact hW.upd (Upd.refl (fun _ => False) w).drew (fun _ _ h => h)
  have hc63 : c ≤ 9223372036854775807 := by
    rcases ho.2 with ⟨e, _⟩ | ⟨g', cap, cur, e, hb, _, _, hm, _⟩
    · cases e
    · injection e with _ _ e3
      unfold maxLen at hm
      omega
  rw [← hn] at hl ⊢
  have HMK := Lib.hid hmk
  have HS := Lib.hid (show BytesR w.drew (.slice (some ⟨g, 0, none⟩) n c) l ∧ BytesR w.drew (.slice A n wc) l from ⟨hb2, hb1⟩)
  have hwr : IntKind.i64.wrap ((n : Int) + 6) = n + 6 := by rw [IntKind.wrap_i64]; omega
  have HWR := Lib.hid hwr
  clear hmk hb1 hb2 hv ho hW hn hg hwr
  go_enter Tryd.func24, Tryd.ntmps24
  go_wp2_with fail
  refine wp_region_pl (by kernel_rfl) (fun W => BytesR W (.slice (some ⟨g, 0, none⟩) n c) l ∧ BytesR W (.slice A n wc) l) 16 [(0, 0), (1, 0), (2, 0), (3, 0), (4, 0), (5, 0), (6, 0), (7, 0), (8, 0), (9, 0), (10, 0), (11, 1), (12, 0), (13, 1), (14, 0), (15, 0)] (by kernel_rfl) (by kernel_rfl) (fun _ _ _ _ _ h => h) (HS.out) ?_
  generalize hfr : (Act.mk _ _) = a0
  have hsz : a0.tmps.size = 42 := by rw [← hfr]; rfl
  have e1 : a0.eval (.tmp 1) = .slice A n wc := by rw [← hfr]; rfl
  have e5 : a0.eval (.tmp 5) = .slice (some ⟨g, 0, none⟩) c c := by rw [← hfr]; rfl
  refine pl_pure (.slice (some ⟨g, 0, none⟩) c c) rfl (wanted_none rfl) (fun W => exec_move (.tmp 5) rfl (by simp [ev_put, sz_put, hsz, e5])) ?_
  refine pl_pure (.int .i64 c) rfl (wanted_none rfl) (fun W => exec_len (.tmp 11) 33 _ rfl (ad := some ⟨g, 0, none⟩) (n := c) (c := c) (by simp [ev_put, sz_put, hsz]) Tryd.underlying33) ?_
  refine pl_pure (.slice A n wc) rfl (wanted_none rfl) (fun W => exec_move (.tmp 1) rfl (by simp [ev_put, sz_put, hsz, e1])) ?_
  refine pl_pure (.int .i64 n) rfl (wanted_none rfl) (fun W => exec_len (.tmp 13) 33 _ rfl (ad := A) (n := n) (c := wc) (by simp [ev_put, sz_put, hsz]) Tryd.underlying33) ?_
  refine pl_pure (.int .i64 (n + 6)) rfl (wanted_none rfl) (fun W => exec_add 3 3 (.tmp 14) (.const (.int .i64 6)) rfl (m := n) (n := 6) (by simp [ev_put, sz_put, hsz]) rfl (HWR.out)) ?_
  refine pl_pure (.bool false) rfl (wanted_none rfl) (fun W => (exec_lss 3 3 (.tmp 12) (.tmp 15) rfl (k := .i64) (m := c) (n := n + 6) (by simp [ev_put, sz_put, hsz]) (by simp [ev_put, sz_put, hsz])).trans (by rw [show (decide ((c : Int) < n + 6)) = false from decide_eq_false (by omega)])) ?_
  refine pl_pure (.bool false) rfl (wanted_none rfl) (fun W => exec_move (.tmp 16) rfl (by simp [ev_put, sz_put, hsz])) ?_
  refine pl_pure (.slice (some ⟨g, 0, none⟩) c c) rfl (wanted_of (b := false) rfl rfl (by simp [sz_put, hsz]) (by simp [ev_put, sz_put, hsz]) rfl) (fun W => exec_move (.tmp 5) rfl (by simp [ev_put, sz_put, hsz, e5])) ?_
  refine pl_pure (.slice A n wc) rfl (wanted_of (b := false) rfl rfl (by simp [sz_put, hsz]) (by simp [ev_put, sz_put, hsz]) rfl) (fun W => exec_move (.tmp 1) rfl (by simp [ev_put, sz_put, hsz, e1])) ?_
  refine pl_pure (.int .i64 n) rfl (wanted_of (b := false) rfl rfl (by simp [sz_put, hsz]) (by simp [ev_put, sz_put, hsz]) rfl) (fun W => exec_len (.tmp 19) 33 _ rfl (ad := A) (n := n) (c := wc) (by simp [ev_put, sz_put, hsz]) Tryd.underlying33) ?_
  refine pl_pure (.slice (some ⟨g, 0, none⟩) n c) rfl (wanted_of (b := false) rfl rfl (by simp [sz_put, hsz]) (by simp [ev_put, sz_put, hsz]) rfl) (fun W => exec_sliceTo 33 (.tmp 18) (.tmp 20) rfl Tryd.underlying33 (sz := 1) (by kernel_rfl) (n := c) (k := .i64) (j := n) (by simp [ev_put, sz_put, hsz]) (by simp [ev_put, sz_put, hsz]) (by omega)) ?_
  refine pl_held (.string (bs l)) rfl (wanted_of (b := false) rfl rfl (by simp [sz_put, hsz]) (by simp [ev_put, sz_put, hsz]) rfl) (fun W hW => exec_conv 33 9 (.tmp 21) rfl (by simp [ev_put, sz_put, hsz]) (run_str Tryd.prog W 33 5 9 Tryd.underlying33 Tryd.underlying5 Tryd.underlying9 _ l hW.1)) ?_
  refine pl_pure (.slice A n wc) rfl (wanted_of (b := false) rfl rfl (by simp [sz_put, hsz]) (by simp [ev_put, sz_put, hsz]) rfl) (fun W => exec_move (.tmp 1) rfl (by simp [ev_put, sz_put, hsz, e1])) ?_
  refine pl_held (.string (bs l)) rfl (wanted_of (b := false) rfl rfl (by simp [sz_put, hsz]) (by simp [ev_put, sz_put, hsz]) rfl) (fun W hW => exec_conv 33 9 (.tmp 23) rfl (by simp [ev_put, sz_put, hsz]) (run_str Tryd.prog W 33 5 9 Tryd.underlying33 Tryd.underlying5 Tryd.underlying9 _ l hW.2)) ?_
  refine pl_pure (.bool false) rfl (wanted_of (b := false) rfl rfl (by simp [sz_put, hsz]) (by simp [ev_put, sz_put, hsz]) rfl) (fun W => (exec_neqS 9 9 (.tmp 22) (.tmp 24) rfl (m := (bs l)) (n := (bs l)) (by simp [ev_put, sz_put, hsz]) (by simp [ev_put, sz_put, hsz])).trans (by rw [show (((bs l)).toList != ((bs l)).toList) = false from by simp])) ?_
  refine pl_pure (.bool false) rfl (wanted_none rfl) (fun W => exec_pick (.tmp 17) (.const (.bool true)) (.tmp 25) rfl (b := false) (by simp [ev_put, sz_put, hsz]) (by simp [ev_put, sz_put, hsz, ev_const])) ?_
  refine pl_done ?_
  rw [← hfr]
  simp only [Act.put, List.setIfInBounds_toArray, List.set_cons_zero, List.set_cons_succ]
  clear hfr hsz e1 e5
  go_wp2_with fail
  go_loop [6] (fun p => ∃ i : Nat, i ≤ 6 ∧ p = .int .i64 i) (fun p => 6 - (intOf p).toNat)
  case atStart => exact ⟨0, by omega, rfl⟩
  case round =>
    obtain ⟨i, hi, rfl⟩ := hrel
    by_cases hlt : i < 6
    · have hc := HMK.out i hlt
      have hi0 : (0 : Int) ≤ (n : Int) + i := by omega
      go_wp2
      go_round
      case rel => exact ⟨i + 1, by omega, by go_num⟩
      case measure => simp [intOf]; omega
    · have : i = 6 := by omega
      subst this
      go_wp2
      go_ret
      exact ⟨rfl, rfl⟩
end Go.Proofs.YtlkmpjanchhahaaDoor
