/- The model of cartagelaw04.DiskKeeps and its plain laws; a list of acts in memory. -/
import Derived.Test.YtlkmpjanchhahaaDoorMaps
import Derived.Test.YtlkmpjanchhahaaDoorDeeds
namespace Go.Proofs.YtlkmpjanchhahaaDoor
open Go Go.RowKit

structure ActM where
  kind : Int
  n : Int
  bytes : List UInt8
  keep : List Bool
def idx5 (n : Int) : Int := wrap64 ((IntKind.u64.wrap n).tmod 5)
theorem idx5_spec (n : Int) : 0 ≤ idx5 n ∧ idx5 n < 5 := by
  obtain ⟨k, hk, e⟩ := wrap_mod n 5 (by omega) (by omega)
  have e' : idx5 n = k := e
  omega

/-- A list of acts lies behind v. -/
def ActsR (s : Nat) (W : World) (v : Value) (l : List ActM) : Prop :=
  ∃ a c, v = .slice a l.length c ∧ (0 < l.length → ∃ ab ao, a = some ⟨ab, ao, none⟩ ∧ ∀ j (h : j < l.length), ∃ bv kv,
    W.rangeAt ab (ao + j * 4) [.int .i64 l[j].kind, .int .i64 l[j].n, bv, kv] ∧ BytesR W bv l[j].bytes ∧ BoolsR W kv l[j].keep ∧ (0 < l[j].bytes.length → ∀ k, bv.ownBlock = some k → k < s) ∧ (∀ m c, bv = .slice none m c → c = 0) ∧ (0 < l[j].keep.length → ∀ k, kv.ownBlock = some k → k < s))
theorem ActsR.upd {s : Nat} {W W' : World} {v : Value} {l : List ActM} (h : ActsR s W v l) (hu : Upd (fun _ => False) W W') : ActsR s W' v l := by
  obtain ⟨a, c, rfl, h⟩ := h
  refine ⟨a, c, rfl, fun hl => ?_⟩
  obtain ⟨ab, ao, rfl, hj0⟩ := h hl
  refine ⟨ab, ao, rfl, fun j hj => ?_⟩
  obtain ⟨bv, kv, h1, h2, h3, h4, h6, h7⟩ := hj0 j hj
  exact ⟨bv, kv, fun i u hi => hu.cell (h1 i u hi) (fun h => h), h2.upd hu (fun _ _ h => h), h3.upd hu (fun _ _ h => h), h4, h6, h7⟩

def kstep (D : DM) (a : ActM) : DM := if a.kind = 1 then D.sync.2 else if a.bytes.length ≤ 32 then (D.write (idx5 a.n) a.bytes).2 else D
/-- An act that may have written s into sector i. -/
def Wrote (i : Int) (s : List UInt8) (a : ActM) : Prop := a.kind ≠ 1 ∧ idx5 a.n = i ∧ a.bytes.length ≤ 32 ∧ s = pad32 a.bytes
instance (i : Int) (s : List UInt8) (a : ActM) : Decidable (Wrote i s a) := by unfold Wrote; infer_instance
structure KInv (l : List ActM) (j : Nat) (D : DM) : Prop where
  size : D.size = 5
  left : D.left = -1
  off : D.off = false
  deeds : D.deeds ≤ (j : Int)
  pend : D.pend.length ≤ j
  uniq : Uniq D.safe
  from_ : ∀ p ∈ D.pend, ∃ a ∈ l, Wrote p.1 p.2 a

theorem KInv.new (l : List ActM) : KInv l 0 (DM.new 5) := ⟨rfl, rfl, rfl, Int.le_refl _, Nat.le_refl _, List.nodup_nil, fun p hp => by cases hp⟩
theorem KInv.step {l : List ActM} {j : Nat} {D : DM} (h : KInv l j D) (a : ActM) (ha : a ∈ l) : KInv l (j + 1) (kstep D a) := by
  obtain ⟨h1, h2, h3, h4, h5, h6, h7⟩ := h
  have hl0 : ¬ D.left = 0 := by omega
  have hl1 : ¬ 0 < D.left := by omega
  unfold kstep
  split
  · have e : D.sync.2 = { D with deeds := D.deeds + 1, safe := D.pend.foldl keepIn D.safe, pend := [] } := by
      unfold DM.sync DM.deed
      rw [h3, if_neg (by simp), if_neg hl0, if_neg hl0, if_neg hl1]
    rw [e]
    exact ⟨h1, h2, h3, by show D.deeds + 1 ≤ _; omega, Nat.zero_le _, (foldl_keep D.pend D.safe h6).1, fun p hp => by cases hp⟩
  · rename_i hk
    split
    · rename_i hb
      have hi := idx5_spec a.n
      have hhas : D.has (idx5 a.n) = true := by unfold DM.has; simp; omega
      have e : (D.write (idx5 a.n) a.bytes).2 = { D with deeds := D.deeds + 1, pend := D.pend ++ [(idx5 a.n, pad32 a.bytes)] } := by
        unfold DM.write DM.deed
        rw [h3, if_neg (by simp), hhas, if_neg (by simp), if_neg (by omega), if_neg hl0, if_neg hl0, if_neg hl1]
      rw [e]
      refine ⟨h1, h2, h3, by show D.deeds + 1 ≤ _; omega, by show (D.pend ++ _).length ≤ _; simp; omega, h6, ?_⟩
      intro p hp
      rcases List.mem_append.1 hp with hp | hp
      · exact h7 p hp
      · simp at hp
        subst hp
        exact ⟨a, ha, hk, rfl, hb, rfl⟩
    · exact ⟨h1, h2, h3, by omega, by omega, h6, h7⟩
theorem KInv.fold {l : List ActM} : ∀ (xs : List ActM) (j : Nat) (D : DM), KInv l j D → (∀ a ∈ xs, a ∈ l) → KInv l (j + xs.length) (xs.foldl kstep D)
  | [], j, D, h, _ => h
  | a :: xs, j, D, h, ha => by
    have := KInv.fold xs (j + 1) (kstep D a) (h.step a (ha a (by simp))) (fun b hb => ha b (by simp [hb]))
    rw [List.foldl_cons, List.length_cons, show j + (xs.length + 1) = j + 1 + xs.length by omega]
    exact this
/-- What DiskKeeps asks of each sector. -/
theorem keeps_sector {l : List ActM} {j : Nat} {D : DM} (h : KInv l j D) (keep : List Bool) (i : Int) :
    (D.crash keep).2.seen i = mget D.safe i ∨ ∃ a ∈ l, Wrote i ((D.crash keep).2.seen i) a := by
  have e : (D.crash keep).2.seen i = lastOf i (keptOf keep D.pend 0) (mget D.safe i) := by
    show mget ((keptOf keep D.pend 0).foldl keepIn D.safe) i = _
    exact (foldl_keep _ _ h.uniq).2 i
  rw [e]
  rcases lastOf_cases i (keptOf keep D.pend 0) (mget D.safe i) with h1 | ⟨p, hp, h2, h3⟩
  · exact .inl h1
  · right
    obtain ⟨a, ha, hw⟩ := h.from_ p (keptOf_sub keep D.pend 0 p hp)
    rw [h2] at hw
    exact ⟨a, ha, by rw [h3]; exact hw⟩
theorem keeps_all {l : List ActM} {j : Nat} {D : DM} (h : KInv l j D) (i : Int) : mget (D.pend.foldl keepIn D.safe) i = D.seen i := (foldl_keep _ _ h.uniq).2 i
theorem crash_all (D : DM) : D.crash (List.replicate D.pend.length true) = (D.pend.length, { D with safe := D.pend.foldl keepIn D.safe, pend := [], left := -1, off := false }) := by
  unfold DM.crash
  rw [keptOf_all _ _ 0 (fun j h1 h2 => by simp at h2; simp [List.getD, h2])]
theorem trues_set (q i : Nat) (h : i < q) : (((List.replicate i true ++ List.replicate (q - i) false).map Value.bool).toArray).setIfInBounds i (.bool true) = ((List.replicate (i + 1) true ++ List.replicate (q - (i + 1)) false).map Value.bool).toArray := by
  have e : q - i = (q - (i + 1)) + 1 := by omega
  rw [List.setIfInBounds_toArray, e]
  congr 1
  have e2 : (List.replicate i true ++ List.replicate (q - (i + 1) + 1) false).set i true = List.replicate (i + 1) true ++ List.replicate (q - (i + 1)) false := by
    rw [List.set_append_right _ _ (by simp)]
    rw [List.length_replicate, Nat.sub_self, List.replicate_succ (n := q - (i + 1)), List.set_cons_zero, List.replicate_succ' (n := i), List.append_assoc]
    rfl
  rw [← e2, List.map_set]
theorem trues_at (q i : Nat) (h : i < q) : (((List.replicate i true ++ List.replicate (q - i) false).map Value.bool).toArray)[i]? = some (.bool false) := by
  rw [List.getElem?_toArray, List.getElem?_map, List.getElem?_append_right (by simp), List.length_replicate, Nat.sub_self, List.getElem?_replicate, if_pos (by omega)]
  rfl
theorem safe_ok (ea : Nat → Addr) (B : Nat) (O : Nat → Prop) (w : World) (b : Nat) (D : DM) (h : DiskIn B O w b D) (hE : Errs ea B w) (i : Int) (hh : D.has i = true) :
    Calls Tryd.prog 18 #[.pointer (some ⟨b, 0, none⟩), .int .i64 i] w fun r w' => ∃ v, r = .returned (.tuple #[v, .nilIface]) ∧ BytesAt w' v (mget D.safe i) ∧ Upd (fun _ => False) w w' := by
  refine (safe_c ea B O w b D h hE i).mono ?_
  rintro r w' ⟨v, hr, hv, hu⟩
  rw [if_pos hh] at hv
  rw [if_pos hh] at hr
  exact ⟨v, hr, hv, hu⟩
theorem read_ok (ea : Nat → Addr) (B : Nat) (O : Nat → Prop) (w : World) (b : Nat) (D : DM) (h : DiskIn B O w b D) (hE : Errs ea B w) (i : Int) (hh : D.has i = true) (ho : D.off = false) :
    Calls Tryd.prog 19 #[.pointer (some ⟨b, 0, none⟩), .int .i64 i] w fun r w' => ∃ v, r = .returned (.tuple #[v, .nilIface]) ∧ BytesAt w' v (D.seen i) ∧ Upd (fun _ => False) w w' := by
  refine (read_c ea B O w b D h hE i).mono ?_
  rintro r w' ⟨v, hr, hv, hu⟩
  rw [if_pos ⟨ho, hh⟩] at hv
  rw [if_neg (by rw [ho]; simp), if_pos hh] at hr
  exact ⟨v, hr, hv, hu⟩
theorem BytesAt.upd {w w' : World} {v : Value} {l : List UInt8} (h : BytesAt w v l) (hu : Upd (fun _ => False) w w') : BytesAt w' v l := by
  obtain ⟨g, t, rfl, hb⟩ := h
  exact ⟨g, t, rfl, hb.upd hu (fun h => h)⟩
theorem str_of {w : World} {v : Value} {l : List UInt8} (h : BytesAt w v l) : (convert 33 9 v).run Tryd.prog w = .ok (.string (bs l)) w :=
  run_str Tryd.prog w 33 5 9 Tryd.underlying33 Tryd.underlying5 Tryd.underlying9 v l h.r
end Go.Proofs.YtlkmpjanchhahaaDoor
