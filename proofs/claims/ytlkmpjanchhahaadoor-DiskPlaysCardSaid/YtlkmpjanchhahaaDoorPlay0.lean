/- The disk and the document's disk stay alike: plain laws. -/
import Derived.Test.YtlkmpjanchhahaaDoorSame
namespace Go.Proofs.YtlkmpjanchhahaaDoor
set_option linter.unusedVariables false
set_option linter.unusedSimpArgs false
open Go Go.RowKit

theorem Rel.new (n : Nat) : Rel (DM.new n) (RM.new n) :=
  ⟨by simp [DM.new, RM.new], fun i hi => by simp [RM.new, DM.new]; rfl, rfl, rfl, rfl, rfl, List.nodup_nil⟩
theorem Rel.deed {D : DM} {R : RM} (h : Rel D R) : R.deed.1 = D.deed.1.isNone ∧ Rel D.deed.2 R.deed.2 := by
  obtain ⟨h1, h2, h3, h4, h5, h6, h7⟩ := h
  unfold RM.deed DM.deed
  by_cases hz : D.left = 0
  · rw [if_pos hz, if_pos (by rw [h4]; exact hz)]
    exact ⟨rfl, ⟨h1, h2, h3, h4, rfl, h6, h7⟩⟩
  · rw [if_neg hz, if_neg (by rw [h4]; exact hz)]
    refine ⟨rfl, ⟨h1, h2, h3, ?_, h5, by show R.deeds + 1 = D.deeds + 1; rw [h6], h7⟩⟩
    show (if 0 < R.left then R.left - 1 else R.left) = (if 0 < D.left then D.left - 1 else D.left)
    rw [h4]
theorem Rel.write {D : DM} {R : RM} (h : Rel D R) (i : Int) (l : List UInt8) : numOf (D.write i l).1 = (R.write i l).1 ∧ Rel (D.write i l).2 (R.write i l).2 := by
  have hd := h.deed
  unfold DM.write RM.write
  rw [h.off, h.has i, h.left]
  by_cases h1 : D.off = true
  · rw [if_pos h1, if_pos h1]; exact ⟨rfl, h⟩
  · rw [if_neg h1, if_neg h1]
    by_cases h2 : D.has i = false
    · rw [if_pos h2, if_pos h2]; exact ⟨rfl, h⟩
    · rw [if_neg h2, if_neg h2]
      by_cases h3 : 32 < l.length
      · rw [if_pos h3, if_pos h3]; exact ⟨rfl, h⟩
      · rw [if_neg h3, if_neg h3]
        by_cases h4 : D.left = 0
        · rw [if_pos h4, if_pos h4]; exact ⟨rfl, hd.2⟩
        · rw [if_neg h4, if_neg h4]
          obtain ⟨g1, g2, g3, g4, g5, g6, g7⟩ := hd.2
          exact ⟨rfl, ⟨g1, g2, by show R.pend ++ _ = D.pend ++ _; rw [h.pend], g4, g5, g6, g7⟩⟩
theorem Rel.arm {D : DM} {R : RM} (h : Rel D R) (n : Int) : numOf (D.arm n).1 = (R.arm n).1 ∧ Rel (D.arm n).2 (R.arm n).2 := by
  unfold DM.arm RM.arm
  rw [h.off]
  by_cases h1 : n < 0
  · rw [if_pos h1, if_pos h1]; exact ⟨rfl, h⟩
  · rw [if_neg h1, if_neg h1]
    by_cases h2 : D.off = true
    · rw [if_pos h2, if_pos h2]; exact ⟨rfl, h⟩
    · rw [if_neg h2, if_neg h2]
      exact ⟨rfl, ⟨h.size, h.safe, h.pend, rfl, rfl, h.deeds, h.uniq⟩⟩
theorem putAll_get (l : List (Int × List UInt8)) : ∀ (s : List (List UInt8)) (i : Nat) (h : i < s.length), (∀ p ∈ l, 0 ≤ p.1) → (putAll l s)[i]'(by rw [putAll_length]; exact h) = lastOf i l s[i] := by
  induction l with
  | nil => intro s i h _; rfl
  | cons p l ih =>
    intro s i h hp
    have h' : i < (s.set p.1.toNat p.2).length := by simpa using h
    have := ih (s.set p.1.toNat p.2) i h' (fun q hq => hp q (by simp [hq]))
    have e1 : putAll (p :: l) s = putAll l (s.set p.1.toNat p.2) := rfl
    have e2 : lastOf i (p :: l) s[i] = lastOf i l (if p.1 = i then p.2 else s[i]) := rfl
    simp only [e1, e2]
    rw [this]
    congr 1
    rw [List.getElem_set]
    have h0 := hp p (by simp)
    by_cases e : p.1 = (i : Int)
    · rw [if_pos e, if_pos (by omega)]
    · rw [if_neg e, if_neg (by omega)]
theorem Rel.put {D : DM} {R : RM} (h : Rel D R) (l : List (Int × List UInt8)) (hl : ∀ p ∈ l, 0 ≤ p.1) :
    (∀ i (hi : i < (putAll l R.safe).length), (putAll l R.safe)[i] = mget (l.foldl keepIn D.safe) i) ∧ Uniq (l.foldl keepIn D.safe) := by
  refine ⟨fun i hi => ?_, (foldl_keep l D.safe h.uniq).1⟩
  have hi' : i < R.safe.length := by rwa [putAll_length] at hi
  rw [putAll_get l R.safe i hi' hl, h.safe i hi']
  exact ((foldl_keep l D.safe h.uniq).2 i).symm
theorem Rel.sync {D : DM} {R : RM} (h : Rel D R) (ho : R.ok) : numOf D.sync.1 = R.sync.1 ∧ Rel D.sync.2 R.sync.2 := by
  have hd := h.deed
  have hp := h.put R.pend (fun p hp => (ho.at_ p hp).1)
  unfold DM.sync RM.sync
  rw [h.off, h.left]
  by_cases h1 : D.off = true
  · rw [if_pos h1, if_pos h1]; exact ⟨rfl, h⟩
  · rw [if_neg h1, if_neg h1]
    by_cases h4 : D.left = 0
    · rw [if_pos h4, if_pos h4]; exact ⟨rfl, hd.2⟩
    · rw [if_neg h4, if_neg h4]
      obtain ⟨g1, g2, g3, g4, g5, g6, g7⟩ := hd.2
      rw [← h.pend]
      refine ⟨rfl, ⟨?_, hp.1, rfl, g4, g5, g6, hp.2⟩⟩
      show D.deed.2.size = ((putAll R.pend R.safe).length : Int)
      rw [putAll_length]
      rw [g1, R.deed_safe.1]
theorem Rel.crash {D : DM} {R : RM} (h : Rel D R) (ho : R.ok) (keep : List Bool) : (D.crash keep).1 = (R.crash keep).1 ∧ Rel (D.crash keep).2 (R.crash keep).2 := by
  have hp := h.put (keptOf keep R.pend 0) (fun p hp => (ho.at_ p (keptOf_mem keep _ 0 p hp)).1)
  unfold DM.crash RM.crash
  rw [← h.pend]
  refine ⟨rfl, ⟨?_, hp.1, rfl, rfl, rfl, h.deeds, hp.2⟩⟩
  show D.size = ((putAll (keptOf keep R.pend 0) R.safe).length : Int)
  rw [putAll_length]
  exact h.size
theorem DM.deed_le (D : DM) : D.deed.2.deeds ≤ D.deeds + 1 ∧ D.deed.2.pend = D.pend := by
  unfold DM.deed
  split
  · exact ⟨by show D.deeds ≤ _; omega, rfl⟩
  · exact ⟨by show D.deeds + 1 ≤ _; omega, rfl⟩
theorem DM.write_le (D : DM) (i : Int) (l : List UInt8) : (D.write i l).2.deeds ≤ D.deeds + 1 ∧ (D.write i l).2.pend.length ≤ D.pend.length + 1 := by
  have := D.deed_le
  unfold DM.write
  split
  · exact ⟨by show D.deeds ≤ _; omega, by show D.pend.length ≤ _; omega⟩
  · split
    · exact ⟨by show D.deeds ≤ _; omega, by show D.pend.length ≤ _; omega⟩
    · split
      · exact ⟨by show D.deeds ≤ _; omega, by show D.pend.length ≤ _; omega⟩
      · split
        · exact ⟨this.1, by show D.deed.2.pend.length ≤ _; rw [this.2]; omega⟩
        · exact ⟨this.1, by show (D.pend ++ _).length ≤ _; simp⟩
theorem DM.sync_le (D : DM) : D.sync.2.deeds ≤ D.deeds + 1 ∧ D.sync.2.pend.length ≤ D.pend.length + 1 := by
  have := D.deed_le
  unfold DM.sync
  split
  · exact ⟨by show D.deeds ≤ _; omega, by show D.pend.length ≤ _; omega⟩
  · split
    · exact ⟨this.1, by show D.deed.2.pend.length ≤ _; rw [this.2]; omega⟩
    · exact ⟨this.1, Nat.zero_le _⟩
theorem DM.arm_le (D : DM) (n : Int) : (D.arm n).2.deeds = D.deeds ∧ (D.arm n).2.pend = D.pend := by
  unfold DM.arm
  split
  · exact ⟨rfl, rfl⟩
  · split <;> exact ⟨rfl, rfl⟩
end Go.Proofs.YtlkmpjanchhahaaDoor
