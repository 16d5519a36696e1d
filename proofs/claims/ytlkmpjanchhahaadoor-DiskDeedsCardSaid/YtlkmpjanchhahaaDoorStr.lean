/- A slice of bytes as a string. -/
import Derived.Test.YtlkmpjanchhahaaDoorDisk2
import Derived.Laws.BytesArg
import Derived.Lib.SlBytesConst
namespace Go.Proofs.YtlkmpjanchhahaaDoor
open Go.RowKit

def bs (l : List UInt8) : ByteArray := ⟨l.toArray⟩
theorem bs_inj {l m : List UInt8} : bs l = bs m ↔ l = m :=
  ⟨fun h => by have h1 : (bs l).data = (bs m).data := by rw [h]
               have h2 : l.toArray.toList = m.toArray.toList := by rw [show l.toArray = m.toArray from h1]
               simpa using h2, fun h => by rw [h]⟩
theorem fold_bs (l : List UInt8) : (l.map (fun c => (c.toNat : Int))).foldl (fun r n => r.push (UInt8.ofNat n.toNat)) ByteArray.empty = bs l := by
  rw [foldl_push_bytes]
  unfold bs
  congr 1
  apply Array.toList_inj.1
  simp only [List.map_map, Array.toList_append]
  have : (fun n : Int => UInt8.ofNat n.toNat) ∘ (fun c : UInt8 => (c.toNat : Int)) = id := by
    funext c
    simp
  rw [this]
  simp [ByteArray.empty, ByteArray.emptyWithCapacity]
  rfl
theorem run_str (P : Program) (w : World) (src e dst : TypeId) (hs : P.underlying src = some (.slice e)) (he : P.underlying e = some (.int .u8)) (hd : P.underlying dst = some .string) (v : Value) (l : List UInt8) (h : BytesR w v l) :
    (convert src dst v).run P w = .ok (.string (bs l)) w := by
  obtain ⟨a, c, rfl, h⟩ := h
  cases a with
  | none =>
    rw [run_convert_bytes_nil w src e hs he l.length c dst hd]
    cases l with
    | nil => rfl
    | cons x l =>
      obtain ⟨ad, had, _⟩ := h (by simp)
      cases had
  | some ad =>
    have hl : (loadCells ad l.length).run P w = .ok ((l.map (fun c => (c.toNat : Int))).map (Value.int .u8)).toArray w := by
      have := run_loadCells_list (P := P) w ad (u8s l) (fun j v hj => by
        have hjl : 0 < l.length := by
          have := (List.getElem?_eq_some_iff.1 hj).1
          rw [u8s_length] at this
          omega
        obtain ⟨ad', had, hc⟩ := h hjl
        injection had with had
        subst had
        exact hc j v hj)
      rw [u8s_length] at this
      rw [this]
      congr 2
      simp [u8s]
      intro c _
      rfl
    rw [run_convert_bytes_string w src dst e _ l.length c hs he hd, run_bytesToString w ad l.length c _ hl, fold_bs]
theorem BytesAt.r {w : World} {v : Value} {l : List UInt8} (h : BytesAt w v l) : BytesR w v l := by
  obtain ⟨g, t, rfl, hb⟩ := h
  refine ⟨_, _, rfl, fun _ => ⟨_, rfl, fun j u hj => ?_⟩⟩
  rw [Addr.add_mid, hb.cell]
  simpa using hj
end Go.Proofs.YtlkmpjanchhahaaDoor
