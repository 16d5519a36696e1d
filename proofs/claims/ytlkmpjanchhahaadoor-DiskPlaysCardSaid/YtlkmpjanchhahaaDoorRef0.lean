/- The document's disk (cartageref04): its model, how it lies in memory, and the contracts of Has, Arm, deed. -/
import Derived.Test.YtlkmpjanchhahaaDoorKeeps0
import Derived.Test.YtlkmpjanchhahaaDoorExec
namespace Go.Proofs.YtlkmpjanchhahaaDoor
open Go.RowKit
set_option linter.unusedSimpArgs false
set_option linter.unusedVariables false

structure RM where
  safe : List (List UInt8)
  pend : List (Int × List UInt8)
  left : Int
  off : Bool
  deeds : Int

/-- A sector's bytes, in a block of its own. -/
def SecAt (O : Nat → Prop) (w : World) (v : Value) (l : List UInt8) : Prop := ∃ g, O g ∧ v = .slice (some ⟨g, 0, none⟩) 32 32 ∧ Blk w g 5 (u8s l).toArray ∧ l.length = 32
theorem SecAt.upd {O S : Nat → Prop} {w w' : World} {v : Value} {l : List UInt8} (h : SecAt O w v l) (hu : Upd S w w') (hS : ∀ k, Blk w k 5 (u8s l).toArray → O k → ¬ S k) : SecAt O w' v l := by
  obtain ⟨g, h1, h2, h3, h4⟩ := h
  exact ⟨g, h1, h2, h3.upd hu (hS g h3 h1), h4⟩
theorem SecAt.mono {O O' : Nat → Prop} {w : World} {v : Value} {l : List UInt8} (h : SecAt O w v l) (hO : ∀ k, O k → O' k) : SecAt O' w v l := by
  obtain ⟨g, h1, h2⟩ := h
  exact ⟨g, hO g h1, h2⟩
theorem SecAt.r {O : Nat → Prop} {w : World} {v : Value} {l : List UInt8} (h : SecAt O w v l) : BytesAt w v l := by
  obtain ⟨g, _, rfl, h3, h4⟩ := h
  exact ⟨g, 5, by rw [h4], h3⟩
/-- Sectors, one by one. -/
def Secs (O : Nat → Prop) (w : World) (vs : List Value) (ls : List (List UInt8)) : Prop := vs.length = ls.length ∧ ∀ (i : Nat) (v : Value) (l : List UInt8), vs[i]? = some v → ls[i]? = some l → SecAt O w v l
theorem Secs.upd {O S : Nat → Prop} {w w' : World} {vs : List Value} {ls : List (List UInt8)} (h : Secs O w vs ls) (hu : Upd S w w') (hS : ∀ k c, Blk w k 5 c → O k → ¬ S k) : Secs O w' vs ls :=
  ⟨h.1, fun i v l h1 h2 => (h.2 i v l h1 h2).upd hu (fun k hk => hS k _ hk)⟩
theorem Secs.mono {O O' : Nat → Prop} {w : World} {vs : List Value} {ls : List (List UInt8)} (h : Secs O w vs ls) (hO : ∀ k, O k → O' k) : Secs O' w vs ls :=
  ⟨h.1, fun i v l h1 h2 => (h.2 i v l h1 h2).mono hO⟩
theorem Secs.snoc {O : Nat → Prop} {w : World} {vs : List Value} {ls : List (List UInt8)} {v : Value} {l : List UInt8} (h : Secs O w vs ls) (hv : SecAt O w v l) : Secs O w (vs ++ [v]) (ls ++ [l]) := by
  refine ⟨by simp [h.1], fun i u m h1 h2 => ?_⟩
  by_cases hi : i < vs.length
  · rw [List.getElem?_append_left hi] at h1
    rw [List.getElem?_append_left (by rw [← h.1]; exact hi)] at h2
    exact h.2 i u m h1 h2
  · rw [List.getElem?_append_right (by omega)] at h1
    rw [List.getElem?_append_right (by rw [← h.1]; omega)] at h2
    rw [h.1] at h1
    cases hk : i - ls.length with
    | zero =>
      rw [hk] at h1 h2
      simp at h1 h2
      subst h1
      subst h2
      exact hv
    | succ n =>
      rw [hk] at h1
      simp at h1
theorem Secs.set {O : Nat → Prop} {w : World} {vs : List Value} {ls : List (List UInt8)} {v : Value} {l : List UInt8} (h : Secs O w vs ls) (hv : SecAt O w v l) (j : Nat) : Secs O w (vs.set j v) (ls.set j l) := by
  refine ⟨by simp [h.1], fun i u m h1 h2 => ?_⟩
  rw [List.getElem?_set] at h1 h2
  by_cases hij : j = i
  · subst hij
    rw [if_pos rfl] at h1 h2
    by_cases hl : j < vs.length
    · rw [if_pos hl] at h1
      rw [if_pos (by rw [← h.1]; exact hl)] at h2
      injection h1 with h1
      injection h2 with h2
      subst h1
      subst h2
      exact hv
    · rw [if_neg hl] at h1
      cases h1
  · rw [if_neg hij] at h1 h2
    exact h.2 i u m h1 h2
theorem Secs.get {O : Nat → Prop} {w : World} {vs : List Value} {ls : List (List UInt8)} (h : Secs O w vs ls) (i : Nat) (hi : i < ls.length) : ∃ v, vs[i]? = some v ∧ SecAt O w v ls[i] := by
  have hv : i < vs.length := by rw [h.1]; exact hi
  exact ⟨vs[i], List.getElem?_eq_getElem hv, h.2 i _ _ (List.getElem?_eq_getElem hv) (List.getElem?_eq_getElem hi)⟩

structure RM.ok (R : RM) : Prop where
  deeds0 : 0 ≤ R.deeds
  deeds1 : R.deeds < 4611686018427387904
  left0 : -1 ≤ R.left
  left1 : R.left ≤ 9223372036854775807
  pend : R.pend.length < 1000000
  size : R.safe.length ≤ 4096
  at_ : ∀ p ∈ R.pend, 0 ≤ p.1 ∧ p.1 < R.safe.length

def places (l : List (Int × List UInt8)) : List Value := l.map fun p => .int .i64 p.1
def bodies (l : List (Int × List UInt8)) : List (List UInt8) := l.map (·.2)

/-- The document's disk R lies at block b; what it owns are blocks of O. -/
structure RefRows (B : Nat) (O : Nat → Prop) (w : World) (b : Nat) (R : RM) (sv av bv : Value) (vs us : List Value) : Prop where
  ob : O b
  os : ∀ k, sv.ownBlock = some k → O k
  oa : ∀ k, av.ownBlock = some k → O k
  obb : ∀ k, bv.ownBlock = some k → O k
  ge : ∀ k, O k → B ≤ k
  lt : ∀ k, O k → k < w.heap.size
  ok : R.ok
  blk : Blk w b 90 #[sv, av, bv, .int .i64 R.left, .bool R.off, .int .i64 R.deeds]
  rs : w.ownsRow B 33 1 sv R.safe.length vs
  ss : Secs O w vs R.safe
  ra : w.ownsRow B 3 1 av R.pend.length (places R.pend)
  rb : w.ownsRow B 33 1 bv R.pend.length us
  sb : Secs O w us (bodies R.pend)
  ne : ∀ k, sv.ownBlock = some k → bv.ownBlock ≠ some k
def RefIn (B : Nat) (O : Nat → Prop) (w : World) (b : Nat) (R : RM) : Prop := ∃ sv av bv vs us, RefRows B O w b R sv av bv vs us

theorem RefRows.upd {B : Nat} {O S : Nat → Prop} {w w' : World} {b : Nat} {R : RM} {sv av bv : Value} {vs us : List Value} (h : RefRows B O w b R sv av bv vs us) (hu : Upd S w w') (hS : ∀ k, O k → ¬ S k) : RefRows B O w' b R sv av bv vs us :=
  ⟨h.ob, h.os, h.oa, h.obb, h.ge, fun k hk => Nat.lt_of_lt_of_le (h.lt k hk) hu.size, h.ok, h.blk.upd hu (hS _ h.ob), ownsRow_upd h.rs hu (fun k hk => hS _ (h.os k hk)), h.ss.upd hu (fun k _ _ hk => hS k hk),
    ownsRow_upd h.ra hu (fun k hk => hS _ (h.oa k hk)), ownsRow_upd h.rb hu (fun k hk => hS _ (h.obb k hk)), h.sb.upd hu (fun k _ _ hk => hS k hk), h.ne⟩
theorem RefIn.upd {B : Nat} {O S : Nat → Prop} {w w' : World} {b : Nat} {R : RM} (h : RefIn B O w b R) (hu : Upd S w w') (hS : ∀ k, O k → ¬ S k) : RefIn B O w' b R := by
  obtain ⟨sv, av, bv, vs, us, h⟩ := h
  exact ⟨sv, av, bv, vs, us, h.upd hu hS⟩
theorem RefIn.lt {B : Nat} {O : Nat → Prop} {w : World} {b : Nat} {R : RM} (h : RefIn B O w b R) : ∀ k, O k → k < w.heap.size := by
  obtain ⟨sv, av, bv, vs, us, h⟩ := h
  exact h.lt
theorem RefIn.ok' {B : Nat} {O : Nat → Prop} {w : World} {b : Nat} {R : RM} (h : RefIn B O w b R) : R.ok := by
  obtain ⟨sv, av, bv, vs, us, h⟩ := h
  exact h.ok
/-- Numbers of the struct are stored into: the rest stays. -/
theorem RefRows.fields {B : Nat} {O : Nat → Prop} {w w' : World} {b : Nat} {R R' : RM} {sv av bv : Value} {vs us : List Value} (h : RefRows B O w b R sv av bv vs us) (hu : Upd (fun k => k = b) w w') (ho : R'.ok) (hs : R'.safe = R.safe) (hp : R'.pend = R.pend)
    (hb : Blk w' b 90 #[sv, av, bv, .int .i64 R'.left, .bool R'.off, .int .i64 R'.deeds]) : RefRows B O w' b R' sv av bv vs us := by
  have hne : ∀ k c, Blk w k 5 c → O k → ¬ k = b := fun k c hk _ e => by subst e; exact absurd (hk.ne h.blk (by decide)) (by simp)
  refine ⟨h.ob, h.os, h.oa, h.obb, h.ge, fun k hk => Nat.lt_of_lt_of_le (h.lt k hk) hu.size, ho, hb, ?_, ?_, ?_, ?_, ?_, h.ne⟩
  · rw [hs]; exact ownsRow_upd h.rs hu (fun k hk e => own_ne h.rs h.blk (by decide) (by rw [hk, e]))
  · rw [hs]; exact h.ss.upd hu hne
  · rw [hp]; exact ownsRow_upd h.ra hu (fun k hk e => own_ne h.ra h.blk (by decide) (by rw [hk, e]))
  · rw [hp]; exact ownsRow_upd h.rb hu (fun k hk e => own_ne h.rb h.blk (by decide) (by rw [hk, e]))
  · rw [hp]; exact h.sb.upd hu hne

def RM.has (R : RM) (i : Int) : Bool := decide (0 ≤ i) && decide (i < R.safe.length)

theorem rhas_c (b : Nat) (i : Int) (a : Option Addr) (n c : Nat) (w : World) (h : w.cell? ⟨b, 0, none⟩ = some (.slice a n c)) (hn : n ≤ 4096) :
    Calls Tryd.prog 53 #[.pointer (some ⟨b, 0, none⟩), .int .i64 i] w fun e w' => e = .returned (.bool (decide (0 ≤ i) && decide (i < n))) ∧ w = w' := by
  go_enter Tryd.func53, Tryd.ntmps53
  go_wp2
  all_goals (go_ret; refine ⟨?_, rfl⟩; simp; try omega)

def RM.deed (R : RM) : Bool × RM :=
  if R.left = 0 then (false, { R with off := true })
  else (true, { R with left := if 0 < R.left then R.left - 1 else R.left, deeds := R.deeds + 1 })

theorem rdeed_c (B : Nat) (O : Nat → Prop) (w : World) (b : Nat) (R : RM) (sv av bv : Value) (vs us : List Value) (h : RefRows B O w b R sv av bv vs us) (hd : R.deeds < 4611686018427387900) :
    Calls Tryd.prog 54 #[.pointer (some ⟨b, 0, none⟩)] w fun r w' => r = .returned (.bool R.deed.1) ∧ RefRows B O w' b R.deed.2 sv av bv vs us ∧ Upd (fun k => k = b) w w' := by
  obtain ⟨o1, o2, o3, o4, o5, o6, o7⟩ := h.ok
  have h3 : w.cell? ⟨b, 3, none⟩ = some (.int .i64 R.left) := h.blk.cell 3
  have h4 : w.cell? ⟨b, 4, none⟩ = some (.bool R.off) := h.blk.cell 4
  have h5 : w.cell? ⟨b, 5, none⟩ = some (.int .i64 R.deeds) := h.blk.cell 5
  have f3 := h.blk.froz 3
  have f4 := h.blk.froz 4
  have f5 := h.blk.froz 5
  have H := Lib.hid h
  have HD := Lib.hid hd
  by_cases hz : R.left = 0
  · have e : R.deed = (false, { R with off := true }) := by unfold RM.deed; rw [if_pos hz]
    rw [e]
    have hz' : (R.left == 0) = true := by simpa using hz
    clear hz e h hd
    go_enter Tryd.func54, Tryd.ntmps54
    go_wp2
    go_ret
    refine ⟨rfl, ?_, (Upd.refl (fun k => k = b) w).setCell (fun _ => rfl) _⟩
    exact H.out.fields ((Upd.refl (fun k => k = b) w).setCell (fun _ => rfl) _) ⟨o1, o2, o3, o4, o5, o6, o7⟩ rfl rfl (H.out.blk.set 4 _)
  · by_cases hp : 0 < R.left
    · have e : R.deed = (true, { R with left := R.left - 1, deeds := R.deeds + 1 }) := by unfold RM.deed; rw [if_neg hz, if_pos hp]
      rw [e]
      have hz' : (R.left == 0) = false := by simpa using hz
      clear hz e h
      go_enter Tryd.func54, Tryd.ntmps54
      go_wp2
      go_ret
      have hu : Upd (fun k => k = b) w ((w.setCell ⟨b, 3, none⟩ (.int .i64 (R.left - 1))).setCell ⟨b, 5, none⟩ (.int .i64 (R.deeds + 1))) := ((Upd.refl (fun k => k = b) w).setCell (fun _ => rfl) _).setCell (fun _ => rfl) _
      refine ⟨rfl, ?_, hu⟩
      have := HD.out
      exact H.out.fields hu ⟨by show 0 ≤ R.deeds + 1; omega, by show R.deeds + 1 < _; omega, by show -1 ≤ R.left - 1; omega, by show R.left - 1 ≤ _; omega, o5, o6, o7⟩ rfl rfl ((H.out.blk.set 3 _).set 5 _)
    · have e : R.deed = (true, { R with deeds := R.deeds + 1 }) := by unfold RM.deed; rw [if_neg hz, if_neg hp]
      rw [e]
      have hz' : (R.left == 0) = false := by simpa using hz
      clear hz e h
      go_enter Tryd.func54, Tryd.ntmps54
      go_wp2
      go_ret
      have hu : Upd (fun k => k = b) w (w.setCell ⟨b, 5, none⟩ (.int .i64 (R.deeds + 1))) := (Upd.refl (fun k => k = b) w).setCell (fun _ => rfl) _
      refine ⟨rfl, ?_, hu⟩
      have := HD.out
      exact H.out.fields hu ⟨by show 0 ≤ R.deeds + 1; omega, by show R.deeds + 1 < _; omega, o3, o4, o5, o6, o7⟩ rfl rfl (H.out.blk.set 5 _)

def RM.arm (R : RM) (n : Int) : Int × RM := if n < 0 then (1, R) else if R.off then (16, R) else (0, { R with left := n })
theorem rarm_c (B : Nat) (O : Nat → Prop) (w : World) (b : Nat) (R : RM) (h : RefIn B O w b R) (n : Int) (hn : n ≤ 9223372036854775807) :
    Calls Tryd.prog 26 #[.pointer (some ⟨b, 0, none⟩), .int .i64 n] w fun r w' => r = .returned (.int .i64 (R.arm n).1) ∧ RefIn B O w' b (R.arm n).2 ∧ Upd (fun k => k = b) w w' := by
  obtain ⟨sv, av, bv, vs, us, h⟩ := h
  obtain ⟨o1, o2, o3, o4, o5, o6, o7⟩ := h.ok
  have h3 : w.cell? ⟨b, 3, none⟩ = some (.int .i64 R.left) := h.blk.cell 3
  have h4 : w.cell? ⟨b, 4, none⟩ = some (.bool R.off) := h.blk.cell 4
  have f3 := h.blk.froz 3
  have H := Lib.hid h
  by_cases hz : n < 0
  · have e : R.arm n = (1, R) := by unfold RM.arm; rw [if_pos hz]
    rw [e]
    clear e h
    go_enter Tryd.func26, Tryd.ntmps26
    go_wp2
    go_ret
    exact ⟨rfl, ⟨_, _, _, _, _, H.out⟩, Upd.refl _ _⟩
  · cases ho : R.off
    · have e : R.arm n = (0, { R with left := n }) := by unfold RM.arm; rw [if_neg hz, ho]; rfl
      rw [e]
      rw [ho] at h4
      have HO := Lib.hid ho
      clear e h ho
      go_enter Tryd.func26, Tryd.ntmps26
      go_wp2
      go_ret
      have hu : Upd (fun k => k = b) w (w.setCell ⟨b, 3, none⟩ (.int .i64 n)) := (Upd.refl (fun k => k = b) w).setCell (fun _ => rfl) _
      refine ⟨rfl, ⟨_, _, _, _, _, H.out.fields hu ⟨o1, o2, by show -1 ≤ n; omega, hn, o5, o6, o7⟩ rfl rfl (H.out.blk.set 3 _)⟩, hu⟩
    · have e : R.arm n = (16, R) := by unfold RM.arm; rw [if_neg hz, ho]; rfl
      rw [e]
      rw [ho] at h4
      clear e h ho
      go_enter Tryd.func26, Tryd.ntmps26
      go_wp2
      go_ret
      exact ⟨rfl, ⟨_, _, _, _, _, H.out⟩, Upd.refl _ _⟩
end Go.Proofs.YtlkmpjanchhahaaDoor
