/- A slice of bytes as a string. -/
import Derived.Test.YtlkmpjanchhahaaDoorDisk2
import Derived.Laws.BytesArg
import Derived.Lib.SlBytesConst
namespace Go.Proofs.YtlkmpjanchhahaaDoor
open Go.RowKit

theorem BytesAt.r {w : World} {v : Value} {l : List UInt8} (h : BytesAt w v l) : BytesR w v l := by
  obtain ⟨g, t, rfl, hb⟩ := h
  refine ⟨_, _, rfl, fun _ => ⟨_, rfl, fun j u hj => ?_⟩⟩
  rw [Addr.add_mid, hb.cell]
  simpa using hj
end Go.Proofs.YtlkmpjanchhahaaDoor
