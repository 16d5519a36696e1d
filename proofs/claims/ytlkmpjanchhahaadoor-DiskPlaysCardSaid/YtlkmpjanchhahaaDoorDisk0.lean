/- The disk of package disk: its model, how it lies in memory, and the contracts of its small functions (has, deed, Deeds, Off, Pending, Size, Arm, New). -/
import Derived.Test.YtlkmpjanchhahaaDoorChecked
import Derived.Test.YtlkmpjanchhahaaDoorMap
namespace Go.Proofs.YtlkmpjanchhahaaDoor
open Go.RowKit
set_option linter.unusedSimpArgs false
set_option linter.unusedVariables false

/-- The package-level errors: variable g holds a pointer to a block of its own, below B. -/
structure Errs (ea : Nat → Addr) (B : Nat) (w : World) : Prop where
  var : ∀ g, g < 22 → w.cell? ⟨g, 0, none⟩ = some (.iface 116 (.pointer (some (ea g))))
  big : 22 ≤ B
  hB : B ≤ w.heap.size
  lt : ∀ g, g < 22 → (ea g).block < B
  blk : ∀ g, g < 22 → ∃ c t, Blk w (ea g).block t c
  inj : ∀ g h, g < 22 → h < 22 → g ≠ h → ea g ≠ ea h
theorem Errs.upd {ea : Nat → Addr} {B : Nat} {w w' : World} {S : Nat → Prop} (h : Errs ea B w) (hu : Upd S w w') (hS : ∀ k, S k → B ≤ k) : Errs ea B w' :=
  ⟨fun g hg => hu.cell (h.var g hg) (fun hs => by have := hS _ hs; have := h.big; simp at *; omega), h.big, Nat.le_trans h.hB hu.size, h.lt,
    fun g hg => by obtain ⟨c, t, hb⟩ := h.blk g hg; exact ⟨c, t, hb.upd hu (fun hs => by have := hS _ hs; have := h.lt g hg; omega)⟩, h.inj⟩

def ev (ea : Nat → Addr) : Option Nat → Value
  | none => .nilIface
  | some g => .iface 116 (.pointer (some (ea g)))

/-- A disk: its size, its map, what is pending, the deeds left, whether it is off, the deeds done. -/
structure DM where
  size : Int
  safe : List (Int × List UInt8)
  pend : List (Int × List UInt8)
  left : Int
  off : Bool
  deeds : Int

def wcell (p : Int × List UInt8) : List Value := .int .i64 p.1 :: u8s p.2
def wcells (l : List (Int × List UInt8)) : List Value := (l.map wcell).flatten

structure DM.ok (D : DM) : Prop where
  deeds0 : 0 ≤ D.deeds
  deeds1 : D.deeds < 4611686018427387904
  left0 : -1 ≤ D.left
  left1 : D.left ≤ 9223372036854775807
  pend : D.pend.length < 1000000
  full : ∀ p ∈ D.pend, p.2.length = 32
  sfull : ∀ p ∈ D.safe, p.2.length = 32

/-- The disk D lies at block b; what it owns are blocks of O. -/
def DiskIn (B : Nat) (O : Nat → Prop) (w : World) (b : Nat) (D : DM) : Prop :=
  ∃ m pv, O b ∧ O m ∧ (∀ k, pv.ownBlock = some k → O k) ∧ (∀ k, O k → B ≤ k) ∧ (∀ k, O k → k < w.heap.size) ∧ D.ok ∧
    Blk w b 79 #[.int .i64 D.size, .map (some m), pv, .int .i64 D.left, .bool D.off, .int .i64 D.deeds] ∧ MapAt w m D.safe ∧ w.ownsRow B 85 33 pv D.pend.length (wcells D.pend)

theorem ownsRow_upd {B : Nat} {w w' : World} {S : Nat → Prop} {e : TypeId} {size n : Nat} {v : Value} {xs : List Value} (h : w.ownsRow B e size v n xs) (hu : Upd S w w') (hS : ∀ k, v.ownBlock = some k → ¬ S k) : w'.ownsRow B e size v n xs := by
  refine ⟨h.1, ?_⟩
  rcases h.2 with hn | ⟨g, cap, cur, rfl, hb, hgg, rest⟩
  · exact .inl hn
  · exact .inr ⟨g, cap, cur, rfl, hb, (hu.block g (Array.getElem?_eq_some_iff.1 hgg).1 (hS g rfl)).trans hgg, rest⟩

theorem DiskIn.upd {B : Nat} {O S : Nat → Prop} {w w' : World} {b : Nat} {D : DM} (h : DiskIn B O w b D) (hu : Upd S w w') (hS : ∀ k, O k → ¬ S k) : DiskIn B O w' b D := by
  obtain ⟨m, pv, h1, h2, h3, h4, h5, h6, h7, h8, h9⟩ := h
  exact ⟨m, pv, h1, h2, h3, h4, fun k hk => Nat.lt_of_lt_of_le (h5 k hk) hu.size, h6, h7.upd hu (hS _ h1), h8.upd hu (hS _ h2), ownsRow_upd h9 hu (fun k hk => hS _ (h3 k hk))⟩
theorem DiskIn.ok' {B : Nat} {O : Nat → Prop} {w : World} {b : Nat} {D : DM} (h : DiskIn B O w b D) : D.ok := by
  obtain ⟨m, pv, h1, h2, h3, h4, h5, h6, h7⟩ := h; exact h6
theorem DiskIn.lt {B : Nat} {O : Nat → Prop} {w : World} {b : Nat} {D : DM} (h : DiskIn B O w b D) : ∀ k, O k → k < w.heap.size := by
  obtain ⟨m, pv, h1, h2, h3, h4, h5, h6, h7⟩ := h; exact h5
theorem DiskIn.ge {B : Nat} {O : Nat → Prop} {w : World} {b : Nat} {D : DM} (h : DiskIn B O w b D) : ∀ k, O k → B ≤ k := by
  obtain ⟨m, pv, h1, h2, h3, h4, h5, h6, h7⟩ := h; exact h4
/-- Two rows' types part: the row of writes is no block of another type. -/
theorem own_ne {w : World} {B : Nat} {e t : TypeId} {size n : Nat} {v : Value} {xs : List Value} {b : Nat} {cs : Array Value} (h : w.ownsRow B e size v n xs) (hb : Blk w b t cs) (hne : e ≠ t) : v.ownBlock ≠ some b := by
  intro hk
  rcases h.2 with ⟨rfl, _⟩ | ⟨g, cap, cur, rfl, _, hgg, _⟩
  · simp [Value.ownBlock] at hk
  · have : g = b := by simpa [Value.ownBlock] using hk
    subst this
    unfold Blk at hb
    rw [hb] at hgg
    injection hgg with hgg
    injection hgg with _ h2 _
    exact hne h2.symm
theorem own_ne_map {w : World} {B : Nat} {e : TypeId} {size n : Nat} {v : Value} {xs : List Value} {m : Nat} {l : List (Int × List UInt8)} (h : w.ownsRow B e size v n xs) (hm : MapAt w m l) : v.ownBlock ≠ some m := by
  intro hk
  obtain ⟨es, c, hm, _⟩ := hm
  rcases h.2 with ⟨rfl, _⟩ | ⟨g, cap, cur, rfl, _, hgg, _⟩
  · simp [Value.ownBlock] at hk
  · have : g = m := by simpa [Value.ownBlock] using hk
    subst this
    rw [hm] at hgg
    cases hgg

/-- Fields of the struct are stored into: the rest of the disk stays. -/
theorem DiskIn.fields {B : Nat} {O : Nat → Prop} {w w' : World} {b : Nat} {D D' : DM} (h : DiskIn B O w b D) (hu : Upd (fun k => k = b) w w') (ho : D'.ok) (hs : D'.safe = D.safe) (hp : D'.pend = D.pend) (hz : D'.size = D.size)
    (hb : ∀ m pv, Blk w b 79 #[.int .i64 D.size, .map (some m), pv, .int .i64 D.left, .bool D.off, .int .i64 D.deeds] → Blk w' b 79 #[.int .i64 D.size, .map (some m), pv, .int .i64 D'.left, .bool D'.off, .int .i64 D'.deeds]) : DiskIn B O w' b D' := by
  obtain ⟨m, pv, h1, h2, h3, h4, h5, h6, h7, h8, h9⟩ := h
  refine ⟨m, pv, h1, h2, h3, h4, fun k hk => Nat.lt_of_lt_of_le (h5 k hk) hu.size, ho, by rw [hz]; exact hb m pv h7, by rw [hs]; exact h8.upd hu (fun e => MapAt.ne h8 h7 e), ?_⟩
  rw [hp]
  exact ownsRow_upd h9 hu (fun k hk e => own_ne h9 h7 (by decide) (by rw [hk, e]))

theorem has_c (b : Nat) (i : Int) (n : Int) (w : World) (h : w.cell? ⟨b, 0, none⟩ = some (.int .i64 n)) :
    Calls Tryd.prog 51 #[.pointer (some ⟨b, 0, none⟩), .int .i64 i] w fun e w' => e = .returned (.bool (decide (0 ≤ i) && decide (i < n))) ∧ w = w' := by
  go_enter Tryd.func51, Tryd.ntmps51
  go_wp2
  all_goals (go_ret; refine ⟨?_, rfl⟩; simp; try omega)

theorem deed_no (b : Nat) (sz : Int) (mv pv : Value) (off : Bool) (dd : Int) (e : Value) (w : World) (h : Blk w b 79 #[.int .i64 sz, mv, pv, .int .i64 0, .bool off, .int .i64 dd]) (he : w.cell? ⟨1, 0, none⟩ = some e) (hb : b ≠ 1) :
    Calls Tryd.prog 49 #[.pointer (some ⟨b, 0, none⟩)] w fun r w' => r = .returned e ∧ w' = w.setCell ⟨b, 4, none⟩ (.bool true) := by
  have h3 : w.cell? ⟨b, 3, none⟩ = some (.int .i64 0) := h.cell 3
  have h4 : w.cell? ⟨b, 4, none⟩ = some (.bool off) := h.cell 4
  have f4 := h.froz 4
  have hb' : ¬ 1 = b := fun e => hb e.symm
  clear h
  go_enter Tryd.func49, Tryd.ntmps49
  go_wp2
  go_ret
  exact ⟨rfl, rfl⟩

theorem deed_pos (b : Nat) (sz : Int) (mv pv : Value) (l : Int) (off : Bool) (dd : Int) (w : World) (h : Blk w b 79 #[.int .i64 sz, mv, pv, .int .i64 l, .bool off, .int .i64 dd]) (hl : 0 < l) (hl2 : l ≤ 9223372036854775807) (h0 : 0 ≤ dd) (h1 : dd < 4611686018427387904) :
    Calls Tryd.prog 49 #[.pointer (some ⟨b, 0, none⟩)] w fun r w' => r = .returned .nilIface ∧ w' = (w.setCell ⟨b, 3, none⟩ (.int .i64 (l - 1))).setCell ⟨b, 5, none⟩ (.int .i64 (dd + 1)) := by
  have h3 : w.cell? ⟨b, 3, none⟩ = some (.int .i64 l) := h.cell 3
  have h5 : w.cell? ⟨b, 5, none⟩ = some (.int .i64 dd) := h.cell 5
  have f3 := h.froz 3
  have f5 := h.froz 5
  have hz : (l == 0) = false := by simp; omega
  clear h
  go_enter Tryd.func49, Tryd.ntmps49
  go_wp2
  go_ret
  exact ⟨rfl, rfl⟩

theorem deed_neg (b : Nat) (sz : Int) (mv pv : Value) (l : Int) (off : Bool) (dd : Int) (w : World) (h : Blk w b 79 #[.int .i64 sz, mv, pv, .int .i64 l, .bool off, .int .i64 dd]) (hl : l < 0) (h0 : 0 ≤ dd) (h1 : dd < 4611686018427387904) :
    Calls Tryd.prog 49 #[.pointer (some ⟨b, 0, none⟩)] w fun r w' => r = .returned .nilIface ∧ w' = w.setCell ⟨b, 5, none⟩ (.int .i64 (dd + 1)) := by
  have h3 : w.cell? ⟨b, 3, none⟩ = some (.int .i64 l) := h.cell 3
  have h5 : w.cell? ⟨b, 5, none⟩ = some (.int .i64 dd) := h.cell 5
  have f5 := h.froz 5
  have hz : (l == 0) = false := by simp; omega
  have hz' : l ≤ 0 := by omega
  clear h
  go_enter Tryd.func49, Tryd.ntmps49
  go_wp2
  go_ret
  exact ⟨rfl, rfl⟩

def DM.deed (D : DM) : Option Nat × DM :=
  if D.left = 0 then (some 1, { D with off := true })
  else (none, { D with left := if 0 < D.left then D.left - 1 else D.left, deeds := D.deeds + 1 })

theorem deed_c (ea : Nat → Addr) (B : Nat) (O : Nat → Prop) (w : World) (b : Nat) (D : DM) (h : DiskIn B O w b D) (hE : Errs ea B w) (hd : D.deeds < 4611686018427387900) :
    Calls Tryd.prog 49 #[.pointer (some ⟨b, 0, none⟩)] w fun r w' => r = .returned (ev ea D.deed.1) ∧ DiskIn B O w' b D.deed.2 ∧ Upd (fun k => k = b) w w' := by
  have h' := h
  obtain ⟨m, pv, h1, h2, h3, h4, h5, h6, h7, h8, h9⟩ := h
  have hbB := h4 b h1
  have := hE.big
  obtain ⟨o1, o2, o3, o4, o5, o6, o7⟩ := h6
  by_cases hz : D.left = 0
  · have e1 : D.deed = (some 1, { D with off := true }) := by simp [DM.deed, hz]
    rw [hz] at h7
    refine (deed_no b _ _ _ _ _ _ w h7 (hE.var 1 (by omega)) (by omega)).mono ?_
    rintro r w' ⟨rfl, rfl⟩
    rw [e1]
    have hu : Upd (fun k => k = b) w (w.setCell ⟨b, 4, none⟩ (.bool true)) := (Upd.refl (fun k => k = b) w).setCell (p := ⟨b, _, none⟩) (fun _ => rfl) _
    refine ⟨rfl, h'.fields hu ⟨o1, o2, by simpa using o3, by simpa using o4, o5, o6, o7⟩ rfl rfl rfl ?_, hu⟩
    intro m pv hb
    exact hb.set 4 _
  · by_cases hp : 0 < D.left
    · have e1 : D.deed = (none, { D with left := D.left - 1, deeds := D.deeds + 1 }) := by simp [DM.deed, hz, hp]
      refine (deed_pos b _ _ _ _ _ _ w h7 hp o4 o1 o2).mono ?_
      rintro r w' ⟨rfl, rfl⟩
      rw [e1]
      have hu : Upd (fun k => k = b) w ((w.setCell ⟨b, 3, none⟩ (.int .i64 (D.left - 1))).setCell ⟨b, 5, none⟩ (.int .i64 (D.deeds + 1))) := ((Upd.refl (fun k => k = b) w).setCell (p := ⟨b, 3, none⟩) (fun _ => rfl) _).setCell (p := ⟨b, 5, none⟩) (fun _ => rfl) _
      have hk : DM.ok { D with left := D.left - 1, deeds := D.deeds + 1 } := ⟨by show 0 ≤ D.deeds + 1; omega, by show D.deeds + 1 < _; omega, by show -1 ≤ D.left - 1; omega, by show D.left - 1 ≤ _; omega, o5, o6, o7⟩
      exact ⟨rfl, h'.fields hu hk rfl rfl rfl (fun m pv hb => (hb.set 3 _).set 5 _), hu⟩
    · have e1 : D.deed = (none, { D with deeds := D.deeds + 1 }) := by simp [DM.deed, hz, hp]
      refine (deed_neg b _ _ _ _ _ _ w h7 (by omega) o1 o2).mono ?_
      rintro r w' ⟨rfl, rfl⟩
      rw [e1]
      have hu : Upd (fun k => k = b) w (w.setCell ⟨b, 5, none⟩ (.int .i64 (D.deeds + 1))) := (Upd.refl (fun k => k = b) w).setCell (p := ⟨b, _, none⟩) (fun _ => rfl) _
      have hk : DM.ok { D with deeds := D.deeds + 1 } := ⟨by show 0 ≤ D.deeds + 1; omega, by show D.deeds + 1 < _; omega, o3, o4, o5, o6, o7⟩
      exact ⟨rfl, h'.fields hu hk rfl rfl rfl (fun m pv hb => hb.set 5 _), hu⟩

theorem deeds_c {B : Nat} {O : Nat → Prop} (w : World) (b : Nat) (D : DM) (h : DiskIn B O w b D) :
    Calls Tryd.prog 14 #[.pointer (some ⟨b, 0, none⟩)] w fun r w' => r = .returned (.int .i64 D.deeds) ∧ w = w' := by
  obtain ⟨m, pv, h1, h2, h3, h4, h5, h6, h7, h8, h9⟩ := h
  have h5 : w.cell? ⟨b, 5, none⟩ = some (.int .i64 D.deeds) := h7.cell 5
  clear h1 h2 h3 h4 h6 h7 h8 h9
  go_enter Tryd.func14, Tryd.ntmps14
  go_wp2
  go_ret
  exact ⟨rfl, rfl⟩
theorem off_c {B : Nat} {O : Nat → Prop} (w : World) (b : Nat) (D : DM) (h : DiskIn B O w b D) :
    Calls Tryd.prog 15 #[.pointer (some ⟨b, 0, none⟩)] w fun r w' => r = .returned (.bool D.off) ∧ w = w' := by
  obtain ⟨m, pv, h1, h2, h3, h4, h5, h6, h7, h8, h9⟩ := h
  have h5 : w.cell? ⟨b, 4, none⟩ = some (.bool D.off) := h7.cell 4
  clear h1 h2 h3 h4 h6 h7 h8 h9
  go_enter Tryd.func15, Tryd.ntmps15
  go_wp2
  go_ret
  exact ⟨rfl, rfl⟩
theorem size_c {B : Nat} {O : Nat → Prop} (w : World) (b : Nat) (D : DM) (h : DiskIn B O w b D) :
    Calls Tryd.prog 55 #[.pointer (some ⟨b, 0, none⟩)] w fun r w' => r = .returned (.int .i64 D.size) ∧ w = w' := by
  obtain ⟨m, pv, h1, h2, h3, h4, h5, h6, h7, h8, h9⟩ := h
  have h5 : w.cell? ⟨b, 0, none⟩ = some (.int .i64 D.size) := h7.cell 0
  clear h1 h2 h3 h4 h6 h7 h8 h9
  go_enter Tryd.func55, Tryd.ntmps55
  go_wp2
  go_ret
  exact ⟨rfl, rfl⟩
theorem own_shape {w : World} {B : Nat} {e : TypeId} {size n : Nat} {v : Value} {xs : List Value} (h : w.ownsRow B e size v n xs) : ∃ A c, v = .slice A n c := by
  rcases h.2 with ⟨rfl, rfl⟩ | ⟨g, cap, cur, rfl, _⟩
  · exact ⟨_, _, rfl⟩
  · exact ⟨_, _, rfl⟩
theorem pending_c {B : Nat} {O : Nat → Prop} (w : World) (b : Nat) (D : DM) (h : DiskIn B O w b D) :
    Calls Tryd.prog 16 #[.pointer (some ⟨b, 0, none⟩)] w fun r w' => r = .returned (.int .i64 D.pend.length) ∧ w = w' := by
  obtain ⟨m, pv, h1, h2, h3, h4, h5, h6, h7, h8, h9⟩ := h
  obtain ⟨A, c, rfl⟩ := own_shape h9
  have h5 : w.cell? ⟨b, 2, none⟩ = some (.slice A D.pend.length c) := h7.cell 2
  clear h1 h2 h3 h4 h6 h7 h8 h9
  go_enter Tryd.func16, Tryd.ntmps16
  go_wp2
  go_ret
  exact ⟨rfl, rfl⟩

def DM.arm (D : DM) (n : Int) : Option Nat × DM :=
  if n < 0 then (some 0, D) else if D.off then (some 1, D) else (none, { D with left := n })
theorem arm_c (ea : Nat → Addr) (B : Nat) (O : Nat → Prop) (w : World) (b : Nat) (D : DM) (h : DiskIn B O w b D) (hE : Errs ea B w) (n : Int) (hn : n ≤ 9223372036854775807) :
    Calls Tryd.prog 10 #[.pointer (some ⟨b, 0, none⟩), .int .i64 n] w fun r w' => r = .returned (ev ea (D.arm n).1) ∧ DiskIn B O w' b (D.arm n).2 ∧ Upd (fun k => k = b) w w' := by
  have h' := h
  obtain ⟨m, pv, h1, h2, h3, h4, h5, h6, h7, h8, h9⟩ := h
  have hbB := h4 b h1
  have := hE.big
  have v0 := hE.var 0 (by omega)
  have v1 := hE.var 1 (by omega)
  obtain ⟨o1, o2, o3, o4, o5, o6, o7⟩ := h6
  have c3 : w.cell? ⟨b, 3, none⟩ = some (.int .i64 D.left) := h7.cell 3
  have c4 : w.cell? ⟨b, 4, none⟩ = some (.bool D.off) := h7.cell 4
  have f3 := h7.froz 3
  by_cases hneg : n < 0
  · have e1 : D.arm n = (some 0, D) := by simp [DM.arm, hneg]
    rw [e1]
    suffices Calls Tryd.prog 10 #[.pointer (some ⟨b, 0, none⟩), .int .i64 n] w fun r w' => r = .returned (.iface 116 (.pointer (some (ea 0)))) ∧ w = w' from
      this.mono (by rintro r w' ⟨rfl, rfl⟩; exact ⟨rfl, h', Upd.refl _ _⟩)
    clear h' h1 h2 h3 h4 h5 h7 h8 h9 hE e1 o5 o6 o7
    go_enter Tryd.func10, Tryd.ntmps10
    go_wp2
    go_ret
    exact ⟨rfl, rfl⟩
  · have hnn : 0 ≤ n := by omega
    clear hneg
    cases hoff : D.off with
    | true =>
      have e1 : D.arm n = (some 1, D) := by unfold DM.arm; rw [if_neg (by omega), if_pos hoff]
      rw [e1]
      rw [hoff] at c4
      suffices Calls Tryd.prog 10 #[.pointer (some ⟨b, 0, none⟩), .int .i64 n] w fun r w' => r = .returned (.iface 116 (.pointer (some (ea 1)))) ∧ w = w' from
        this.mono (by rintro r w' ⟨rfl, rfl⟩; exact ⟨rfl, h', Upd.refl _ _⟩)
      clear h' h1 h2 h3 h4 h5 h7 h8 h9 hE e1 o5 o6 o7 hoff
      go_enter Tryd.func10, Tryd.ntmps10
      go_wp2
      go_ret
      exact ⟨rfl, rfl⟩
    | false =>
      have e1 : D.arm n = (none, { D with left := n }) := by unfold DM.arm; rw [if_neg (by omega), if_neg (by rw [hoff]; simp)]
      rw [e1]
      rw [hoff] at c4
      suffices Calls Tryd.prog 10 #[.pointer (some ⟨b, 0, none⟩), .int .i64 n] w fun r w' => r = .returned .nilIface ∧ w' = w.setCell ⟨b, 3, none⟩ (.int .i64 n) from
        this.mono (by
          rintro r w' ⟨rfl, rfl⟩
          have hu : Upd (fun k => k = b) w (w.setCell ⟨b, 3, none⟩ (.int .i64 n)) := (Upd.refl (fun k => k = b) w).setCell (p := ⟨b, _, none⟩) (fun _ => rfl) _
          have hk : DM.ok { D with left := n } := ⟨o1, o2, by show -1 ≤ n; omega, hn, o5, o6, o7⟩
          exact ⟨rfl, h'.fields hu hk rfl rfl rfl (fun m pv hb => hb.set 3 _), hu⟩)
      clear h' h1 h2 h3 h4 h5 h7 h8 h9 hE e1 o5 o6 o7 hoff
      go_enter Tryd.func10, Tryd.ntmps10
      go_wp2
      go_ret
      exact ⟨rfl, rfl⟩
end Go.Proofs.YtlkmpjanchhahaaDoor
