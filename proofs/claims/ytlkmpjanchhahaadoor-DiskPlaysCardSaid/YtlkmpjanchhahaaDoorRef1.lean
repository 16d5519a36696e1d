/- The document's disk: New and Seen. -/
import Derived.Test.YtlkmpjanchhahaaDoorRef0
namespace Go.Proofs.YtlkmpjanchhahaaDoor
open Go Go.RowKit
set_option linter.unusedSimpArgs false
set_option linter.unusedVariables false

def RM.new (n : Nat) : RM := { safe := List.replicate n zero32, pend := [], left := -1, off := false, deeds := 0 }
theorem make32 (W : World) : (Instr.makeSlice 33 (.int .i64 32) (.int .i64 32)).run Tryd.prog W = .ok (.slice (some ⟨W.heap.size, 0, none⟩) 32 32) (W.alloc (.cells (u8s zero32).toArray 5)) := by
  obtain ⟨i, hi, hz, hsize, hby⟩ := info_parts (show (Tryd.prog.info? 5).map (fun i => (i.zero, i.size, i.bytes)) = some (some (.int .u8 0), 1, 1) by kernel_rfl)
  have := run_makeSlice (P := Tryd.prog) W 33 5 i (.int .u8 0) Tryd.underlying33 hi hz .i64 .i64 32 32 (by omega) (by omega) (by rw [hsize]; decide) (by rw [hby]; omega) (by omega)
  rw [this]
  have e : madeCells (Value.int .u8 0).cells ((32 : Int).toNat * i.size) = (u8s zero32).toArray := by rw [hsize]; kernel_rfl
  rw [e]
  rfl
theorem build1 (v : Value) (h1 : plainV v = true) (W : World) : (Instr.buildSlice 64 1 #[(0, v)]).run Tryd.prog W = .ok (.slice (some ⟨W.heap.size, 0, none⟩) 1 1) (W.alloc (.cells #[v] 33)) := by
  cases v <;> simp [plainV] at h1 <;> go_simp

theorem own_plain {w : World} {B : Nat} {e : TypeId} {size n : Nat} {v : Value} {xs : List Value} (h : w.ownsRow B e size v n xs) : plainV v = true := by
  rcases h.2 with ⟨rfl, _⟩ | ⟨g, cap, cur, rfl, _⟩ <;> rfl
/-- One sector more. -/
theorem RefRows.more {B : Nat} {O O' : Nat → Prop} {w w2 w3 : World} {b j h : Nat} {sv sv' nv : Value} {vs : List Value} (hr : RefRows B O w b (RM.new j) sv (.slice none 0 0) (.slice none 0 0) vs []) (hj : j < 4096)
    (hu2 : Upd (fun _ => False) w w2) (hO : ∀ k, O k → O' k) (hO' : ∀ k, w.heap.size ≤ k → k < w3.heap.size → O' k) (hge : ∀ k, O' k → B ≤ k) (hlt : ∀ k, O' k → k < w3.heap.size) (hsec : SecAt O' w2 nv zero32)
    (hown : w3.ownsRow B 33 1 sv' (j + 1) (vs ++ [nv])) (hg : w2.grownBy w3 sv.ownBlock) (hat : sv'.ownBlock = sv.ownBlock ∨ sv'.ownBlock = some w2.heap.size) :
    w3.cell? ⟨b, 0, none⟩ = some sv ∧ w3.frozen? ⟨b, 0, none⟩ = false ∧ RefRows B O' (w3.setCell ⟨b, 0, none⟩ sv') b (RM.new (j + 1)) sv' (.slice none 0 0) (.slice none 0 0) (vs ++ [nv]) [] ∧ Upd O w w3 := by
  have u3 : Upd (fun k => sv.ownBlock = some k) w2 w3 := (Upd.refl _ _).grown hg (fun k e _ => e)
  have hsb : sv.ownBlock ≠ some b := own_ne hr.rs hr.blk (by decide)
  have b3 := (hr.blk.upd hu2 (fun h => h)).upd u3 hsb
  have h5 : ∀ k c, Blk w2 k 5 c → sv.ownBlock ≠ some k := fun k c hk => own_ne (ownsRow_upd hr.rs hu2 (fun _ _ h => h)) hk (by decide)
  have u4 : Upd (fun k => k = b) w3 (w3.setCell ⟨b, 0, none⟩ sv') := (Upd.refl (fun k => k = b) w3).setCell (p := ⟨b, 0, none⟩) (fun _ => rfl) _
  have ss3 : Secs O' w3 (vs ++ [nv]) ((RM.new j).safe ++ [zero32]) :=
    ((hr.ss.mono hO).upd hu2 (fun _ _ _ _ h => h)).snoc hsec |>.upd u3 (fun k c hk _ e => h5 k c hk e)
  have e : (RM.new j).safe ++ [zero32] = (RM.new (j + 1)).safe := by
    show List.replicate j zero32 ++ [zero32] = List.replicate (j + 1) zero32
    rw [List.replicate_succ']
  rw [e] at ss3
  have hszz : w3.heap.size = (w3.setCell ⟨b, 0, none⟩ sv').heap.size := by simp [World.setCell]
  refine ⟨b3.cell 0, b3.froz 0, ⟨hO b hr.ob, ?_, fun k hk => by simp [Value.ownBlock] at hk, fun k hk => by simp [Value.ownBlock] at hk, hge, fun k hk => by rw [← hszz]; exact hlt k hk, ?_, b3.set 0 _, ?_, ?_, World.ownsRow_nil _ _ _ _, World.ownsRow_nil _ _ _ _, ⟨rfl, fun i v l h => by simp at h⟩, fun k _ => by simp [Value.ownBlock]⟩, ?_⟩
  · intro k hk
    rcases hat with h | h
    · rw [h] at hk; exact hO k (hr.os k hk)
    · rw [h] at hk
      injection hk with hk
      subst hk
      refine hO' _ hu2.size ?_
      rcases hown.2 with ⟨rfl, _⟩ | ⟨g, cap, cur, rfl, _, hgg, _⟩
      · simp [Value.ownBlock] at h
      · have : g = w2.heap.size := by simpa [Value.ownBlock] using h
        subst this
        exact (Array.getElem?_eq_some_iff.1 hgg).1
  · exact ⟨Int.le_refl _, by show (0 : Int) < _; omega, Int.le_refl _, by show (-1 : Int) ≤ _; omega, by show (0 : Nat) < _; omega, by show (List.replicate (j + 1) zero32).length ≤ _; simp; omega, fun p hp => by cases hp⟩
  · rw [show (RM.new (j + 1)).safe.length = j + 1 by simp [RM.new]]
    exact ownsRow_upd hown u4 (fun k hk e => own_ne hown b3 (by decide) (by rw [hk, e]))
  · exact ss3.upd u4 (fun k c hk _ e => by subst e; exact absurd (hk.ne b3 (by decide)) (by simp))
  · exact (hu2.mono (fun _ _ h => h.elim)).then u3 (fun k _ hs => hr.os k hs)

theorem rnew_bad (w : World) (n : Int) (h : n < 2 ∨ 4096 < n) : Calls Tryd.prog 20 #[.int .i64 n] w fun r w' => r = .returned (.pointer none) ∧ w = w' := by
  rcases h with h | h
  · go_enter Tryd.func20, Tryd.ntmps20
    go_wp2
    go_ret
    exact ⟨rfl, rfl⟩
  · have h' : ¬ n < 2 := by omega
    go_enter Tryd.func20, Tryd.ntmps20
    go_wp2
    go_ret
    exact ⟨rfl, rfl⟩

/-- What New's loop keeps. -/
def RNewL (B : Nat) (w : World) (b j : Nat) (wr : World) : Prop :=
  ∃ O sv vs, RefRows B O wr b (RM.new j) sv (.slice none 0 0) (.slice none 0 0) vs [] ∧ (∀ k, O k → w.heap.size ≤ k) ∧ Upd (fun _ => False) w wr

set_option maxHeartbeats 1000000 in
theorem rnew_ok (B : Nat) (w : World) (n : Nat) (h2 : 2 ≤ n) (h4 : n ≤ 4096) (hB : B ≤ w.heap.size) :
    Calls Tryd.prog 20 #[.int .i64 n] w fun r w' => ∃ b O, r = .returned (.pointer (some ⟨b, 0, none⟩)) ∧ RefIn B O w' b (RM.new n) ∧ (∀ k, O k → w.heap.size ≤ k) ∧ Upd (fun _ => False) w w' := by
  go_enter Tryd.func20, Tryd.ntmps20
  go_wp2
  have hb0 : Blk (w.alloc (.cells #[.slice none 0 0, .slice none 0 0, .slice none 0 0, .int .i64 (-1), .bool false, .int .i64 0] 90)) w.heap.size 90 #[.slice none 0 0, .slice none 0 0, .slice none 0 0, .int .i64 (-1), .bool false, .int .i64 0] := Blk.new _ _ _
  have hu0 : Upd (fun _ => False) w (w.alloc (.cells #[.slice none 0 0, .slice none 0 0, .slice none 0 0, .int .i64 (-1), .bool false, .int .i64 0] 90)) := (Upd.refl _ _).alloc _
  obtain ⟨b, hb⟩ : ∃ b, b = w.heap.size := ⟨_, rfl⟩
  have hl0 : RNewL B w b 0 (w.alloc (.cells #[.slice none 0 0, .slice none 0 0, .slice none 0 0, .int .i64 (-1), .bool false, .int .i64 0] 90)) := by
    refine ⟨fun k => k = b, .slice none 0 0, [], ⟨rfl, fun k hk => by simp [Value.ownBlock] at hk, fun k hk => by simp [Value.ownBlock] at hk, fun k hk => by simp [Value.ownBlock] at hk, fun k hk => by omega, fun k hk => by subst hk; rw [hb]; simp, ?_, by rw [hb]; exact hb0, World.ownsRow_nil _ _ _ _, ⟨rfl, fun i v l h => by simp at h⟩, World.ownsRow_nil _ _ _ _, World.ownsRow_nil _ _ _ _, ⟨rfl, fun i v l h => by simp at h⟩, fun k _ => by simp [Value.ownBlock]⟩, fun k hk => by omega, hu0⟩
    exact ⟨Int.le_refl _, by show (0 : Int) < _; omega, Int.le_refl _, by show (-1 : Int) ≤ _; omega, by show (0 : Nat) < _; omega, Nat.zero_le _, fun p hp => by cases hp⟩
  rw [← hb]
  have HL := Lib.hid hl0
  clear hb0 hu0 hl0
  generalize (w.alloc (.cells #[.slice none 0 0, .slice none 0 0, .slice none 0 0, .int .i64 (-1), .bool false, .int .i64 0] 90)) = w0 at HL ⊢
  have HB := Lib.hid hB
  have HBE := Lib.hid hb
  clear hB hb
  go_loopg [4] n (fun k p wr => ∃ j : Nat, p = .int .i64 j ∧ j + k = n ∧ RNewL B w b j wr)
  case atStart => exact ⟨0, rfl, by omega, HL.out⟩
  case round =>
    obtain ⟨j, rfl, hj, hl⟩ := hrel
    by_cases hlt : j < n
    · obtain ⟨O, sv, vs, hr, hO, hu⟩ := hl
      have HR := Lib.hid hr
      have HO := Lib.hid hO
      have HU := Lib.hid hu
      have hc : wr.cell? ⟨b, 0, none⟩ = some sv := hr.blk.cell 0
      have HC := Lib.hid hc
      have hbl := hr.blk.lt
      have HBL := Lib.hid hbl
      clear hr hO hu hc hbl
      go_wp2_with fail
      obtain ⟨H, hH⟩ : ∃ H, H = wr.heap.size := ⟨_, rfl⟩
      obtain ⟨W1, hW1⟩ : ∃ W1, W1 = wr.drew.alloc (.cells (u8s zero32).toArray 5) := ⟨_, rfl⟩
      obtain ⟨W2, hW2⟩ : ∃ W2, W2 = W1.alloc (.cells #[.slice (some ⟨H, 0, none⟩) 32 32] 33) := ⟨_, rfl⟩
      have hmk : (Instr.makeSlice 33 (.int .i64 32) (.int .i64 32)).run Tryd.prog wr.drew = .ok (.slice (some ⟨H, 0, none⟩) 32 32) W1 := by rw [hW1, hH]; exact make32 wr.drew
      have hu1 : Upd (fun _ => False) wr W1 := by rw [hW1]; exact ((Upd.refl _ _).drew).alloc _
      have hu2 : Upd (fun _ => False) wr W2 := by rw [hW2]; exact hu1.alloc _
      have hz1 : W1.heap.size = H + 1 := by rw [hW1, hH]; simp
      have hz2 : W2.heap.size = H + 2 := by rw [hW2]; simp [hz1]
      have hbd : (Instr.buildSlice 64 1 #[(0, .slice (some ⟨H, 0, none⟩) 32 32)]).run Tryd.prog W1 = .ok (.slice (some ⟨H + 1, 0, none⟩) 1 1) W2 := by rw [hW2, ← hz1]; exact build1 _ rfl _
      have hS1 := hu1.cell HC.out (fun h => h)
      have hS2 := hu2.cell HC.out (fun h => h)
      have hown2 : W2.ownsRow B 33 1 sv j vs := by
        have := ownsRow_upd HR.out.rs hu2 (fun _ _ h => h)
        rwa [show (RM.new j).safe.length = j by simp [RM.new]] at this
      have hnews : ∀ q u, [Value.slice (some ⟨H, 0, none⟩) 32 32][q]? = some u → W2.cell? ((⟨H + 1, 0, none⟩ : Addr).add q) = some u := by
        intro q u hq
        have hbk : Blk W2 (H + 1) 33 #[.slice (some ⟨H, 0, none⟩) 32 32] := by rw [hW2, ← hz1]; exact Blk.new _ _ _
        rw [Addr.add_mid, Nat.zero_add, hbk.cell]
        simpa using hq
      have hsec : ∀ O' : Nat → Prop, O' H → SecAt O' W2 (.slice (some ⟨H, 0, none⟩) 32 32) zero32 := fun O' h =>
        ⟨H, h, rfl, by rw [hW2]; exact Blk.alloc (by rw [hW1, hH]; exact Blk.new _ _ _) _, zero32_length⟩
      have hB2 : B ≤ W2.heap.size := by have := HU.out.size; have := HB.out; omega
      have hmore : ∀ sv' w3, w3.ownsRow B 33 1 sv' (j + 1) (vs ++ [.slice (some ⟨H, 0, none⟩) 32 32]) → W2.grownBy w3 sv.ownBlock → (sv'.ownBlock = sv.ownBlock ∨ sv'.ownBlock = some W2.heap.size) →
          w3.cell? ⟨b, 0, none⟩ = some sv ∧ w3.frozen? ⟨b, 0, none⟩ = false ∧ RNewL B w b (j + 1) (w3.setCell ⟨b, 0, none⟩ sv') := by
        intro sv' w3 h1 h2 h3
        have hsz3 := h2.size
        have hwz := HU.out.size
        have := HB.out
        have hm := HR.out.more (O' := fun k => O k ∨ H ≤ k ∧ k < w3.heap.size) (h := H) (by omega) hu2 (fun k hk => .inl hk) (fun k hk hk2 => .inr ⟨by omega, hk2⟩)
          (fun k hk => by rcases hk with hk | hk; exact HR.out.ge k hk; omega) (fun k hk => by rcases hk with hk | hk; have := HR.out.lt k hk; omega; exact hk.2) (hsec _ (.inr ⟨Nat.le_refl _, by omega⟩)) h1 h2 h3
        refine ⟨hm.1, hm.2.1, _, _, _, hm.2.2.1, ?_, ?_⟩
        · intro k hk
          rcases hk with hk | hk
          · exact HO.out k hk
          · omega
        · exact (HU.out.then hm.2.2.2 (fun k _ hk => by have := HO.out k hk; omega)).setCell (fun h => by have := HBE.out; simp at h; omega) _
      have HMORE := Lib.hid hmore
      clear hmore hsec
      refine wp_region_pl (by kernel_rfl) (fun W => W.cell? ⟨b, 0, none⟩ = some sv) 10 [(0, 0), (1, 0), (2, 0), (3, 0), (4, 1), (5, 2), (6, 2), (7, 2), (8, 0), (9, 0), (10, 3)] (by kernel_rfl) (by kernel_rfl) (fun _ _ _ _ _ h => h) (HC.out) ?_
      generalize hfr : (Act.mk _ _) = a0
      have hsz : a0.tmps.size = 29 := by rw [← hfr]; rfl
      have e3 : a0.eval (.tmp 3) = .pointer (some ⟨b, 0, none⟩) := by rw [← hfr]; rfl
      refine pl_pure (.pointer (some ⟨b, 0, none⟩)) rfl (wanted_none rfl) (fun W => exec_move (.tmp 3) rfl (by simp [ev_put, sz_put, hsz, e3])) ?_
      refine pl_pure (.pointer (some ⟨b, 0, none⟩)) rfl (wanted_none rfl) (fun W => exec_move (.tmp 3) rfl (by simp [ev_put, sz_put, hsz, e3])) ?_
      refine pl_pure (.pointer (some ⟨b, 0, none⟩)) rfl (wanted_none rfl) (fun W => exec_nil (.tmp 19) rfl (by simp [ev_put, sz_put, hsz])) ?_
      refine pl_pure (.pointer (some ⟨b, 0, none⟩)) rfl (wanted_none rfl) (fun W => exec_field 90 (.tmp 20) 0 0 64 rfl (by simp [ev_put, sz_put, hsz]) Tryd.underlying90 rfl (by kernel_rfl)) ?_
      refine pl_held (sv) rfl (wanted_none rfl) (fun W hW => exec_load1 64 (.tmp 21) rfl (by simp [ev_put, sz_put, hsz]) Tryd.underlying64 rfl (hW)) ?_
      refine pl_run rfl (wanted_none rfl) (exec_makeSlice 33 (.const (.int .i64 32)) (.const (.int .i64 32)) rfl hmk) hS1 ?_
      refine pl_run rfl (wanted_none rfl) (exec_buildSlice 64 1 #[(0, .tmp 23)] rfl #[(0, .slice (some ⟨H, 0, none⟩) 32 32)] (by simp [ev_put, sz_put, hsz]) hbd) hS2 ?_
      refine pl_append (.tmp 22) (.tmp 24) 64 rfl (wanted_none rfl) rfl B 33 (.slice none 0 0) 1 24 Tryd.underlying64 (by kernel_rfl) rfl (by decide) sv j vs (by simp [ev_put, sz_put, hsz]) hown2 ⟨H + 1, 0, none⟩ 1 1 [.slice (some ⟨H, 0, none⟩) 32 32] (by simp [ev_put, sz_put, hsz]) rfl hnews (by simp [Value.oneCell']) (by omega) (by omega) hB2 ?_
      intro sv' w3 hown3 hg3 hat3
      obtain ⟨hc3, hf3, hN⟩ := HMORE.out sv' w3 hown3 hg3 hat3
      have HN := Lib.hid hN
      clear hN
      refine ⟨hc3, ?_⟩
      refine pl_pure (.pointer (some ⟨b, 0, none⟩)) rfl (wanted_none rfl) (fun W => exec_nil (.tmp 18) rfl (by simp [ev_put, sz_put, hsz])) ?_
      refine pl_pure (.pointer (some ⟨b, 0, none⟩)) rfl (wanted_none rfl) (fun W => exec_field 90 (.tmp 26) 0 0 64 rfl (by simp [ev_put, sz_put, hsz]) Tryd.underlying90 rfl (by kernel_rfl)) ?_
      refine pl_store rfl (wanted_none rfl) (exec_store1 64 (.tmp 27) (.tmp 25) rfl (by simp [ev_put, sz_put, hsz]) (by simp [ev_put, sz_put, hsz]) (by kernel_rfl) (own_plain hown3) hc3 hf3) ?_
      refine pl_done ?_
      rw [← hfr]
      simp only [Act.put, List.setIfInBounds_toArray, List.set_cons_zero, List.set_cons_succ]
      clear hfr hsz e3 hnews hown2 hS1 hS2 hbd hmk hz1 hz2 hu1 hu2 hB2 hc3 hf3 hown3 hg3 hat3
      go_wp2_with fail
      go_roundg (n - (j + 1))
      case measure => omega
      case rel =>
        exact ⟨j + 1, by go_num, by omega, HN.out⟩
    · have hjn : j = n := by omega
      subst hjn
      have HL' := Lib.hid hl
      clear hl hj hlt
      go_wp2_with fail
      go_ret
      obtain ⟨O, sv, vs, hr, hO, hu⟩ := HL'.out
      exact ⟨b, O, rfl, ⟨_, _, _, _, _, hr⟩, hO, hu⟩
end Go.Proofs.YtlkmpjanchhahaaDoor
