/- Bytes and bools in memory: slices wherever they lie; a slice of bytes as a string. -/
import Derived.Test.YtlkmpjanchhahaaDoorLib
import Derived.Laws.BytesArg
import Derived.Lib.SlBytesConst
namespace Go.Proofs.YtlkmpjanchhahaaDoor
open Go.RowKit
set_option linter.unusedSimpArgs false
set_option linter.unusedVariables false

def u8 (c : UInt8) : Value := .int .u8 c.toNat
def u8s (l : List UInt8) : List Value := l.map u8
def zero32 : List UInt8 := List.replicate 32 0
theorem zero32_length : zero32.length = 32 := by simp [zero32]
theorem u8s_length (l : List UInt8) : (u8s l).length = l.length := by simp [u8s]
theorem u8s_one (l : List UInt8) : ∀ v ∈ u8s l, v.oneCell' = true := by
  intro v hv
  obtain ⟨c, _, rfl⟩ := List.mem_map.1 hv
  rfl
theorem u8_inj {a b : UInt8} (h : u8 a = u8 b) : a = b := by
  unfold u8 at h
  injection h with _ h
  exact UInt8.toNat_inj.1 (by omega)

/-- A byte slice's value, wherever it lies. -/
def BytesR (w : World) (v : Value) (l : List UInt8) : Prop := ∃ a c, v = .slice a l.length c ∧ (0 < l.length → ∃ ad, a = some ad ∧ ∀ j u, (u8s l)[j]? = some u → w.cell? (ad.add j) = some u)
theorem BytesR.upd {S : Nat → Prop} {w w' : World} {v : Value} {l : List UInt8} (h : BytesR w v l) (hu : Upd S w w') (hS : ∀ k, v.ownBlock = some k → ¬ S k) : BytesR w' v l := by
  obtain ⟨a, c, rfl, h⟩ := h
  refine ⟨a, c, rfl, fun hl => ?_⟩
  obtain ⟨ad, rfl, hc⟩ := h hl
  refine ⟨ad, rfl, fun j u hj => hu.cell (hc j u hj) ?_⟩
  have : (ad.add j).block = ad.block := by unfold Addr.add; split <;> rfl
  rw [this]
  exact hS _ rfl
/-- A slice of bools, wherever it lies. -/
def BoolsR (w : World) (v : Value) (l : List Bool) : Prop := ∃ a c, v = .slice a l.length c ∧ (0 < l.length → ∃ kb ko, a = some ⟨kb, ko, none⟩ ∧ ∀ j (h : j < l.length), w.cell? ⟨kb, ko + j, none⟩ = some (.bool l[j]))
theorem BoolsR.upd {S : Nat → Prop} {w w' : World} {v : Value} {l : List Bool} (h : BoolsR w v l) (hu : Upd S w w') (hS : ∀ k, v.ownBlock = some k → ¬ S k) : BoolsR w' v l := by
  obtain ⟨a, c, rfl, h⟩ := h
  refine ⟨a, c, rfl, fun hl => ?_⟩
  obtain ⟨kb, ko, rfl, hc⟩ := h hl
  exact ⟨kb, ko, rfl, fun j hj => hu.cell (hc j hj) (hS _ rfl)⟩

def bs (l : List UInt8) : ByteArray := ⟨l.toArray⟩
theorem bs_inj {l m : List UInt8} : bs l = bs m ↔ l = m :=
  ⟨fun h => by have h1 : (bs l).data = (bs m).data := by rw [h]
               have h2 : l.toArray.toList = m.toArray.toList := by rw [show l.toArray = m.toArray from h1]
               simpa using h2, fun h => by rw [h]⟩
theorem fold_bs (l : List UInt8) : (l.map (fun c => (c.toNat : Int))).foldl (fun r n => r.push (UInt8.ofNat n.toNat)) ByteArray.empty = bs l := by
  rw [foldl_push_bytes]
  unfold bs
  congr 1
  apply Array.toList_inj.1
  simp only [List.map_map, Array.toList_append]
  have : (fun n : Int => UInt8.ofNat n.toNat) ∘ (fun c : UInt8 => (c.toNat : Int)) = id := by
    funext c
    simp
  rw [this]
  simp [ByteArray.empty, ByteArray.emptyWithCapacity]
  rfl
theorem run_str (P : Program) (w : World) (src e dst : TypeId) (hs : P.underlying src = some (.slice e)) (he : P.underlying e = some (.int .u8)) (hd : P.underlying dst = some .string) (v : Value) (l : List UInt8) (h : BytesR w v l) :
    (convert src dst v).run P w = .ok (.string (bs l)) w := by
  obtain ⟨a, c, rfl, h⟩ := h
  cases a with
  | none =>
    rw [run_convert_bytes_nil w src e hs he l.length c dst hd]
    cases l with
    | nil => rfl
    | cons x l =>
      obtain ⟨ad, had, _⟩ := h (by simp)
      cases had
  | some ad =>
    have hl : (loadCells ad l.length).run P w = .ok ((l.map (fun c => (c.toNat : Int))).map (Value.int .u8)).toArray w := by
      have := run_loadCells_list (P := P) w ad (u8s l) (fun j v hj => by
        have hjl : 0 < l.length := by
          have := (List.getElem?_eq_some_iff.1 hj).1
          rw [u8s_length] at this
          omega
        obtain ⟨ad', had, hc⟩ := h hjl
        injection had with had
        subst had
        exact hc j v hj)
      rw [u8s_length] at this
      rw [this]
      congr 2
      simp [u8s]
      intro c _
      rfl
    rw [run_convert_bytes_string w src dst e _ l.length c hs he hd, run_bytesToString w ad l.length c _ hl, fold_bs]
end Go.Proofs.YtlkmpjanchhahaaDoor
