/- A map from int to arrays of 32 bytes: what lookup, update and delete do to its entries, by their plain list. -/
import Derived.Test.YtlkmpjanchhahaaDoorOps
import Derived.Test.YtlkmpjanchhahaaDoorBytes
import Derived.MapKept
namespace Go.Proofs.YtlkmpjanchhahaaDoor
open Go.RowKit
set_option linter.unusedSimpArgs false
set_option linter.unusedVariables false

/-- The first entry of a key: its place and its value. -/
def mfind (i : Int) : List (Int × List UInt8) → Nat → Option (Nat × List UInt8)
  | [], _ => none
  | p :: l, n => if i = p.1 then some (n, p.2) else mfind i l (n + 1)
def mget (l : List (Int × List UInt8)) (i : Int) : List UInt8 := ((mfind i l 0).map (·.2)).getD zero32
def mput (l : List (Int × List UInt8)) (i : Int) (s : List UInt8) : List (Int × List UInt8) :=
  match mfind i l 0 with
  | some (j, _) => l.set j (i, s)
  | none => l ++ [(i, s)]
def mdel (l : List (Int × List UInt8)) (i : Int) : List (Int × List UInt8) :=
  match mfind i l 0 with
  | some (j, _) => l.eraseIdx j
  | none => l
def ent (p : Int × List UInt8) : Value × Value := (.int .i64 p.1, .agg (u8s p.2).toArray)

/-- Block m of w is a map with these entries, in this order. -/
def MapAt (w : World) (m : Nat) (l : List (Int × List UInt8)) : Prop := ∃ es clock, w.heap[m]? = some (.map es clock) ∧ es.toList.map (fun e => (e.key, e.val)) = l.map ent

theorem MapAt.lt {w : World} {m : Nat} {l : List (Int × List UInt8)} (h : MapAt w m l) : m < w.heap.size := by
  obtain ⟨es, c, h, _⟩ := h
  exact (Array.getElem?_eq_some_iff.1 h).1
theorem MapAt.upd {S : Nat → Prop} {w w' : World} {m : Nat} {l : List (Int × List UInt8)} (h : MapAt w m l) (hu : Upd S w w') (hs : ¬ S m) : MapAt w' m l := by
  have hl := h.lt
  obtain ⟨es, c, h, he⟩ := h
  exact ⟨es, c, (hu.block m hl hs).trans h, he⟩
theorem MapAt.ne {w : World} {m b : Nat} {l : List (Int × List UInt8)} {t : TypeId} {cs : Array Value} (h : MapAt w m l) (hb : Blk w b t cs) : m ≠ b := by
  rintro rfl
  obtain ⟨es, c, h, _⟩ := h
  unfold Blk at hb
  rw [hb] at h
  cases h
theorem MapAt.new (w : World) : MapAt (w.alloc (.map #[] 0)) w.heap.size [] := ⟨#[], 0, by show (w.heap.push _)[w.heap.size]? = _; simp, rfl⟩

theorem findNow_at (i : Int) : ∀ (es : List MapEntry) (l : List (Int × List UInt8)) (n : Nat), es.map (fun e => (e.key, e.val)) = l.map ent →
    Instr.findNow (.int .i64) (.int .i64 i) es n = some ((mfind i l n).map fun q => (q.1, .agg (u8s q.2).toArray))
  | [], [], _, _ => rfl
  | [], _ :: _, _, h => by simp at h
  | _ :: _, [], _, h => by simp at h
  | e :: es, p :: l, n, h => by
    simp only [List.map_cons, List.cons.injEq] at h
    obtain ⟨h1, h2⟩ := h
    have hk : e.key = .int .i64 p.1 := congrArg Prod.fst h1
    have hv : e.val = .agg (u8s p.2).toArray := congrArg Prod.snd h1
    have ih := findNow_at i es l (n + 1) h2
    unfold Instr.findNow mfind
    simp only [hk, Instr.sameNow, if_true, hv]
    by_cases hi : i = p.1
    · subst hi; simp
    · have hb : (i == p.1) = false := by simpa using hi
      rw [hb, if_neg hi]
      simpa using ih

section
variable {P : Program} {w : World} {m : Nat} {l : List (Int × List UInt8)} {t k e : TypeId}

theorem run_findKey (hk : P.underlying k = some (.int .i64)) (i : Int) {es : Array MapEntry} (he : es.toList.map (fun e => (e.key, e.val)) = l.map ent) :
    (Instr.findKey k (.int .i64 i) es.toList).run P w = .ok ((mfind i l 0).map fun q => (q.1, .agg (u8s q.2).toArray)) w := by
  simp [Instr.findKey, run_underlying hk, findNow_at i es.toList l 0 he]
theorem run_checkKey (hk : P.underlying k = some (.int .i64)) (b : Bool) (i : Int) : (Instr.checkKey b 10000 k (.int .i64 i)).run P w = .ok () w := by
  show (Instr.checkKey b (9999 + 1) k (.int .i64 i)).run P w = _
  rw [Instr.checkKey, Sem.run_bind, run_underlying hk]
  rfl

theorem run_look (h : MapAt w m l) (ht : P.underlying t = some (.map k e)) (hk : P.underlying k = some (.int .i64)) (hz : (zeroValue e).run P w = .ok (.agg (u8s zero32).toArray) w) (i : Int) :
    (Instr.lookup t (.map (some m)) (.int .i64 i) false).run P w = .ok (.agg (u8s (mget l i)).toArray) w := by
  obtain ⟨es, c, hb, he⟩ := h
  unfold Instr.lookup mget
  simp only [Sem.run_bind, run_underlying ht, MapKept.run_getObj_map hb, Result.andThen_ok, Sem.run_pure, run_checkKey hk, run_findKey hk i he]
  cases mfind i l 0 with
  | none => simp [hz]
  | some q => simp

theorem findNow_lt (i : Int) : ∀ (l : List (Int × List UInt8)) (n j : Nat) (s : List UInt8), mfind i l n = some (j, s) → n ≤ j ∧ j < n + l.length ∧ l[j - n]? = some (i, s)
  | [], _, _, _, h => by simp [mfind] at h
  | p :: l, n, j, s, h => by
    unfold mfind at h
    split at h
    · rename_i hi
      injection h with h; injection h with h1 h2
      subst h1; subst h2; subst hi
      simp
    · obtain ⟨a, b, c⟩ := findNow_lt i l (n + 1) j s h
      refine ⟨by omega, by simp; omega, ?_⟩
      have : j - n = (j - (n + 1)) + 1 := by omega
      rw [this, List.getElem?_cons_succ]
      exact c

/-- A map's block gets other entries. -/
def putMap (w : World) (m : Nat) (es : Array MapEntry) (c : Nat) : World := { w with heap := w.heap.setIfInBounds m (.map es c) }
theorem putMap_at (hm : m < w.heap.size) (es : Array MapEntry) (c : Nat) : (putMap w m es c).heap[m]? = some (.map es c) := by
  simp [putMap, Array.getElem?_setIfInBounds, hm]
theorem putMap_upd (es : Array MapEntry) (c : Nat) : Upd (fun k => k = m) w (putMap w m es c) :=
  ⟨rfl, rfl, rfl, by simp [putMap], fun k _ hne => by simp only [putMap, Array.getElem?_setIfInBounds]; rw [if_neg (fun e => hne e.symm)]⟩
theorem run_setMap {es0 es : Array MapEntry} {c0 c : Nat} (hb : w.heap[m]? = some (.map es0 c0)) : (setObj m (.map es c)).run P w = .ok () (putMap w m es c) := by
  unfold setObj
  simp only [Sem.run, hb]
  rfl

theorem run_keyThatStays (i : Int) : (Instr.keyThatStays (.int .i64 i) (.int .i64 i)).run P w = .ok (.int .i64 i) w := by
  simp [Instr.keyThatStays, Instr.sameBits]

theorem modify_map (es : List MapEntry) (l : List (Int × List UInt8)) (he : es.map (fun e => (e.key, e.val)) = l.map ent) (j : Nat) (i : Int) (s : List UInt8) :
    (es.modify j fun e => { e with key := .int .i64 i, val := .agg (u8s s).toArray }).map (fun e => (e.key, e.val)) = (l.set j (i, s)).map ent := by
  induction es generalizing l j with
  | nil =>
    cases l with
    | nil => simp
    | cons p l => simp at he
  | cons x es ih =>
    cases l with
    | nil => simp at he
    | cons p l =>
      simp only [List.map_cons, List.cons.injEq] at he
      cases j with
      | zero => simp [he.2, ent]
      | succ j => simp [he.1, ih l he.2 j]

theorem run_put (h : MapAt w m l) (ht : P.underlying t = some (.map k e)) (hk : P.underlying k = some (.int .i64)) (i : Int) (s : List UInt8) :
    ∃ w', (Instr.mapUpdate t (.map (some m)) (.int .i64 i) (.agg (u8s s).toArray)).run P w = .ok () w' ∧ MapAt w' m (mput l i s) ∧ Upd (fun k => k = m) w w' := by
  have hlt := h.lt
  obtain ⟨es, c, hb, he⟩ := h
  cases hf : mfind i l 0 with
  | none =>
    refine ⟨putMap w m (es.push { key := .int .i64 i, val := .agg (u8s s).toArray, born := c }) (c + 1), ?_, ⟨_, _, putMap_at hlt _ _, ?_⟩, putMap_upd _ _⟩
    · unfold Instr.mapUpdate
      simp only [Sem.run_bind, run_underlying ht, MapKept.run_getObj_map hb, Result.andThen_ok, Sem.run_pure, run_checkKey hk, run_findKey hk i he, hf, Option.map_none]
      exact run_setMap hb
    · unfold mput; rw [hf]
      simp [he, ent]
  | some q =>
    obtain ⟨j, s0⟩ := q
    obtain ⟨_, hj, hl⟩ := findNow_lt i l 0 j s0 hf
    have hlen : es.size = l.length := by have := congrArg List.length he; simpa using this
    have hkey : ((es[j]?).map (·.key)).getD (.int .i64 i) = .int .i64 i := by
      have hjl : j < es.size := by omega
      have h1 : (es.toList.map (fun e => (e.key, e.val)))[j]? = (l.map ent)[j]? := by rw [he]
      rw [List.getElem?_map, List.getElem?_map] at h1
      have h2 : l[j]? = some (i, s0) := by simpa using hl
      rw [h2] at h1
      have h3 : es[j]? = es.toList[j]? := by simp
      rw [h3]
      cases hx : es.toList[j]? with
      | none => rw [hx] at h1; simp at h1
      | some x => rw [hx] at h1; simp [ent] at h1; simp [h1.1]
    refine ⟨putMap w m (es.modify j fun e => { e with key := .int .i64 i, val := .agg (u8s s).toArray }) c, ?_, ⟨_, _, putMap_at hlt _ _, ?_⟩, putMap_upd _ _⟩
    · unfold Instr.mapUpdate
      simp only [Sem.run_bind, run_underlying ht, MapKept.run_getObj_map hb, Result.andThen_ok, Sem.run_pure, run_checkKey hk, run_findKey hk i he, hf, Option.map_some, hkey, run_keyThatStays]
      exact run_setMap hb
    · unfold mput; rw [hf]
      simp only [Array.toList_modify]
      exact modify_map _ _ he _ _ _

theorem eraseIdx_map (es : List MapEntry) (l : List (Int × List UInt8)) (he : es.map (fun e => (e.key, e.val)) = l.map ent) (j : Nat) :
    (es.eraseIdx j).map (fun e => (e.key, e.val)) = (l.eraseIdx j).map ent := by
  induction es generalizing l j with
  | nil =>
    cases l with
    | nil => simp
    | cons p l => simp at he
  | cons x es ih =>
    cases l with
    | nil => simp at he
    | cons p l =>
      simp only [List.map_cons, List.cons.injEq] at he
      cases j with
      | zero => simp [he.2]
      | succ j => simp [he.1, ih l he.2 j]

theorem run_del (h : MapAt w m l) (ty : TypeId) (ht : P.underlying t = some (.map k e)) (hk : P.underlying k = some (.int .i64)) (i : Int) :
    ∃ w', (Builtin.delete_ #[t, k] ty #[.map (some m), .int .i64 i]).run P w = .ok (.tuple #[]) w' ∧ MapAt w' m (mdel l i) ∧ Upd (fun k => k = m) w w' := by
  have hlt := h.lt
  obtain ⟨es, c, hb, he⟩ := h
  cases hf : mfind i l 0 with
  | none =>
    refine ⟨putMap w m es c, ?_, ⟨_, _, putMap_at hlt _ _, ?_⟩, putMap_upd _ _⟩
    · unfold Builtin.delete_
      simp [Sem.run_bind, run_underlying ht, MapKept.run_getObj_map hb, Result.andThen_ok, Sem.run_pure, run_checkKey hk, run_findKey hk i he, hf, Option.map_none, run_setMap hb]
    · unfold mdel; rw [hf]; exact he
  | some q =>
    obtain ⟨j, s0⟩ := q
    refine ⟨putMap w m (es.eraseIdxIfInBounds j) c, ?_, ⟨_, _, putMap_at hlt _ _, ?_⟩, putMap_upd _ _⟩
    · unfold Builtin.delete_
      simp [Sem.run_bind, run_underlying ht, MapKept.run_getObj_map hb, Result.andThen_ok, Sem.run_pure, run_checkKey hk, run_findKey hk i he, hf, Option.map_some, run_setMap hb]
    · unfold mdel; rw [hf]
      simp only [Array.toList_eraseIdxIfInBounds]
      exact eraseIdx_map _ _ he _
end
end Go.Proofs.YtlkmpjanchhahaaDoor
