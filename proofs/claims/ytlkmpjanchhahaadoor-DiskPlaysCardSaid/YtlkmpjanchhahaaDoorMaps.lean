/- Plain laws of the disk's map: what it holds behind a sync or a crash. -/
import Derived.Test.YtlkmpjanchhahaaDoorDisk4
namespace Go.Proofs.YtlkmpjanchhahaaDoor
open Go

theorem mfind_succ (i : Int) : ∀ (l : List (Int × List UInt8)) (n : Nat), mfind i l (n + 1) = (mfind i l n).map (fun q => (q.1 + 1, q.2))
  | [], n => rfl
  | p :: l, n => by
    unfold mfind
    by_cases h : i = p.1
    · simp [h]
    · simp only [if_neg h]
      exact mfind_succ i l (n + 1)
theorem mget_nil (i : Int) : mget [] i = zero32 := rfl
theorem mget_cons (p : Int × List UInt8) (l : List (Int × List UInt8)) (i : Int) : mget (p :: l) i = if i = p.1 then p.2 else mget l i := by
  unfold mget
  rw [mfind]
  by_cases h : i = p.1
  · simp [h]
  · rw [if_neg h, if_neg h, mfind_succ]
    cases mfind i l 0 <;> rfl
theorem mput_nil (i : Int) (s : List UInt8) : mput [] i s = [(i, s)] := rfl
theorem mput_cons (p : Int × List UInt8) (l : List (Int × List UInt8)) (i : Int) (s : List UInt8) : mput (p :: l) i s = if i = p.1 then (i, s) :: l else p :: mput l i s := by
  unfold mput
  rw [mfind]
  by_cases h : i = p.1
  · simp [h]
  · rw [if_neg h, if_neg h, mfind_succ]
    cases mfind i l 0 <;> rfl
theorem mdel_nil (i : Int) : mdel [] i = [] := rfl
theorem mdel_cons (p : Int × List UInt8) (l : List (Int × List UInt8)) (i : Int) : mdel (p :: l) i = if i = p.1 then l else p :: mdel l i := by
  unfold mdel
  rw [mfind]
  by_cases h : i = p.1
  · simp [h]
  · rw [if_neg h, if_neg h, mfind_succ]
    cases mfind i l 0 <;> rfl

def Uniq (l : List (Int × List UInt8)) : Prop := (l.map (·.1)).Nodup
theorem mget_none {l : List (Int × List UInt8)} {i : Int} (h : i ∉ l.map (·.1)) : mget l i = zero32 := by
  induction l with
  | nil => rfl
  | cons p l ih =>
    simp only [List.map_cons, List.mem_cons, not_or] at h
    rw [mget_cons, if_neg h.1, ih h.2]
theorem mget_mput (l : List (Int × List UInt8)) (i k : Int) (s : List UInt8) : mget (mput l i s) k = if k = i then s else mget l k := by
  induction l with
  | nil => rw [mput_nil, mget_cons, mget_nil]
  | cons p l ih =>
    rw [mput_cons]
    by_cases h : i = p.1
    · rw [if_pos h, mget_cons, mget_cons]
      by_cases hk : k = i
      · simp [hk]
      · rw [if_neg hk, if_neg hk, if_neg (by rw [← h]; exact hk)]
    · rw [if_neg h, mget_cons, mget_cons, ih]
      by_cases hk : k = p.1
      · rw [if_pos hk, if_pos hk, if_neg (by rw [hk]; exact fun e => h e.symm)]
      · rw [if_neg hk, if_neg hk]
theorem mget_mdel {l : List (Int × List UInt8)} (hu : Uniq l) (i k : Int) : mget (mdel l i) k = if k = i then zero32 else mget l k := by
  induction l with
  | nil => rw [mdel_nil, mget_nil]; split <;> rfl
  | cons p l ih =>
    have hu' : p.1 ∉ l.map (·.1) ∧ Uniq l := by unfold Uniq at hu ⊢; simpa using hu
    rw [mdel_cons]
    by_cases h : i = p.1
    · rw [if_pos h, mget_cons]
      by_cases hk : k = i
      · rw [if_pos hk, hk, h]; exact mget_none hu'.1
      · rw [if_neg hk, if_neg (by rw [← h]; exact hk)]
    · rw [if_neg h, mget_cons, mget_cons, ih hu'.2]
      by_cases hk : k = p.1
      · rw [if_pos hk, if_pos hk, if_neg (by rw [hk]; exact fun e => h e.symm)]
      · rw [if_neg hk, if_neg hk]
theorem mem_mput {l : List (Int × List UInt8)} {i k : Int} {s : List UInt8} : k ∈ (mput l i s).map (·.1) ↔ k = i ∨ k ∈ l.map (·.1) := by
  induction l with
  | nil => simp [mput_nil]
  | cons p l ih =>
    rw [mput_cons]
    by_cases h : i = p.1
    · rw [if_pos h]
      simp [h]
    · rw [if_neg h]
      simp only [List.map_cons, List.mem_cons, ih]
      constructor
      · rintro (h | h | h) <;> simp [h]
      · rintro (h | h | h) <;> simp [h]
theorem Uniq.mput {l : List (Int × List UInt8)} (hu : Uniq l) (i : Int) (s : List UInt8) : Uniq (mput l i s) := by
  induction l with
  | nil => simp [Uniq, mput_nil]
  | cons p l ih =>
    have hu' : p.1 ∉ l.map (·.1) ∧ Uniq l := by unfold Uniq at hu ⊢; simpa using hu
    rw [mput_cons]
    by_cases h : i = p.1
    · rw [if_pos h]
      unfold Uniq
      simp only [List.map_cons, List.nodup_cons]
      exact ⟨by rw [h]; exact hu'.1, hu'.2⟩
    · rw [if_neg h]
      unfold Uniq
      simp only [List.map_cons, List.nodup_cons]
      refine ⟨fun hm => ?_, ih hu'.2⟩
      rcases mem_mput.1 hm with e | e
      · exact h e.symm
      · exact hu'.1 e
theorem mdel_sub (l : List (Int × List UInt8)) (i : Int) : List.Sublist ((mdel l i).map (·.1)) (l.map (·.1)) := by
  induction l with
  | nil => simp [mdel_nil]
  | cons p l ih =>
    rw [mdel_cons]
    by_cases h : i = p.1
    · rw [if_pos h]; simp
    · rw [if_neg h]; simpa using ih
theorem Uniq.keepIn {l : List (Int × List UInt8)} (hu : Uniq l) (p : Int × List UInt8) : Uniq (keepIn l p) := by
  unfold Go.Proofs.YtlkmpjanchhahaaDoor.keepIn
  split
  · exact List.Nodup.sublist (mdel_sub l p.1) hu
  · exact hu.mput _ _
theorem mget_keepIn {l : List (Int × List UInt8)} (hu : Uniq l) (p : Int × List UInt8) (k : Int) : mget (keepIn l p) k = if p.1 = k then p.2 else mget l k := by
  unfold Go.Proofs.YtlkmpjanchhahaaDoor.keepIn
  by_cases h : p.2 = zero32
  · rw [if_pos h, mget_mdel hu, h]
    by_cases hk : k = p.1
    · rw [if_pos hk, if_pos hk.symm]
    · rw [if_neg hk, if_neg (fun e => hk e.symm)]
  · rw [if_neg h, mget_mput]
    by_cases hk : k = p.1
    · rw [if_pos hk, if_pos hk.symm]
    · rw [if_neg hk, if_neg (fun e => hk e.symm)]
theorem foldl_keep : ∀ (ps l : List (Int × List UInt8)), Uniq l → Uniq (ps.foldl keepIn l) ∧ ∀ k, mget (ps.foldl keepIn l) k = lastOf k ps (mget l k)
  | [], l, hu => ⟨hu, fun k => rfl⟩
  | p :: ps, l, hu => by
    obtain ⟨h1, h2⟩ := foldl_keep ps (keepIn l p) (hu.keepIn p)
    refine ⟨h1, fun k => ?_⟩
    rw [List.foldl_cons, h2 k, mget_keepIn hu]
    rfl
theorem lastOf_cases (k : Int) : ∀ (ps : List (Int × List UInt8)) (s : List UInt8), lastOf k ps s = s ∨ ∃ p ∈ ps, p.1 = k ∧ lastOf k ps s = p.2
  | [], s => .inl rfl
  | p :: ps, s => by
    have e : lastOf k (p :: ps) s = lastOf k ps (if p.1 = k then p.2 else s) := rfl
    rw [e]
    rcases lastOf_cases k ps (if p.1 = k then p.2 else s) with h | ⟨q, hq, h1, h2⟩
    · by_cases hk : p.1 = k
      · right
        exact ⟨p, by simp, hk, by rw [h, if_pos hk]⟩
      · left
        rw [h, if_neg hk]
    · right
      exact ⟨q, by simp [hq], h1, h2⟩
theorem keptOf_sub (keep : List Bool) : ∀ (l : List (Int × List UInt8)) (n : Nat), ∀ p ∈ keptOf keep l n, p ∈ l
  | [], _, p, h => by cases h
  | q :: l, n, p, h => by
    unfold keptOf at h
    split at h
    · rcases List.mem_cons.1 h with rfl | h
      · simp
      · exact List.mem_cons_of_mem _ (keptOf_sub keep l (n + 1) p h)
    · exact List.mem_cons_of_mem _ (keptOf_sub keep l (n + 1) p h)
theorem keptOf_all (keep : List Bool) : ∀ (l : List (Int × List UInt8)) (n : Nat), (∀ j, n ≤ j → j < n + l.length → keep.getD j false = true) → keptOf keep l n = l
  | [], _, _ => rfl
  | q :: l, n, h => by
    unfold keptOf
    rw [if_pos (h n (Nat.le_refl _) (by simp)), keptOf_all keep l (n + 1) (fun j h1 h2 => h j (by omega) (by simp; omega))]
end Go.Proofs.YtlkmpjanchhahaaDoor
