import Derived.Test.YtpboednjlchnhaaDoorProg
import Derived.Below
import Derived.Deep.Draws
import Derived.Deep.QuietTactic
namespace Go.Proofs.YtpboednjlchnhaaDoor.Q
open Go.RowKit
/-! What the two package-level variables that the code reads hold: the letters' spans and the digits 0. -/
def letCells : Array Value := #[.int .i32 97, .int .i32 122, .int .i32 65, .int .i32 90, .int .i32 95, .int .i32 95, .int .i32 192, .int .i32 214, .int .i32 216, .int .i32 246, .int .i32 248, .int .i32 591, .int .i32 880, .int .i32 893, .int .i32 895, .int .i32 902, .int .i32 904, .int .i32 1023, .int .i32 1024, .int .i32 1153, .int .i32 1162, .int .i32 1327, .int .i32 19968, .int .i32 40959, .int .i32 66560, .int .i32 66639]
def zerCells : Array Value := #[.int .i32 48, .int .i32 1632, .int .i32 65296]
def Glob (w : World) : Prop := (∃ t fr, w.heap[0]? = some (.cells letCells t fr)) ∧ (∃ t fr, w.heap[1]? = some (.cells zerCells t fr))

theorem Glob.below {w w' : World} (h : Glob w) (hb : Below w.heap.size w w') : Glob w' := by
  obtain ⟨⟨t, fr, h0⟩, ⟨t1, fr1, h1⟩⟩ := h
  have k0 := (Array.getElem?_eq_some_iff.1 h0).1
  have k1 := (Array.getElem?_eq_some_iff.1 h1).1
  exact ⟨⟨t, fr, by rw [hb.block 0 k0]; exact h0⟩, ⟨t1, fr1, by rw [hb.block 1 k1]; exact h1⟩⟩
theorem Glob.dr {w : World} (h : Glob w) (n : Nat) : Glob (w.drewN n) := h
end Go.Proofs.YtpboednjlchnhaaDoor.Q
