/- frames: how slices of texts and of writes lie in memory. -/
import Derived.Test.YtgcldacpaommiaaDoorProg
import Derived.WalkKit
import Derived.Below
namespace Go.Proofs.YtgcldacpaommiaaDoor
open Go.RowKit
/-- a write: a place and a text. -/
structure Wr where
  at' : Int
  data : ByteArray
def Wr.ok (s : Wr) : Prop := (Lit.int .i64 s.at').wf = true ∧ s.data.size ≤ maxLen
def WrRow (w : World) (a1 : Option Addr) (len : Nat) (S : Nat → Wr) : Prop := ∀ j, j < len → (S j).ok ∧ ∃ sb so, a1 = some ⟨sb, so, none⟩ ∧ w.cell? ⟨sb, so + j * 2, none⟩ = some (.int .i64 (S j).at') ∧ w.cell? ⟨sb, so + j * 2 + 1, none⟩ = some (.string (S j).data)
def StrRow (w : World) (a1 : Option Addr) (len : Nat) (S : Nat → ByteArray) : Prop := ∀ j, j < len → (S j).size ≤ maxLen ∧ ∃ sb so, a1 = some ⟨sb, so, none⟩ ∧ w.cell? ⟨sb, so + j, none⟩ = some (.string (S j))
theorem WrRow.below {w w' : World} {a1 : Option Addr} {len : Nat} {S : Nat → Wr} (h : WrRow w a1 len S) (hb : Below w.heap.size w w') : WrRow w' a1 len S := fun j hj => by
  obtain ⟨h1, sb, so, rfl, h2, h3⟩ := h j hj
  exact ⟨h1, sb, so, rfl, (hb.cell (World.block_lt_of_cell? w _ h2)).trans h2, (hb.cell (World.block_lt_of_cell? w _ h3)).trans h3⟩
theorem StrRow.below {w w' : World} {a1 : Option Addr} {len : Nat} {S : Nat → ByteArray} (h : StrRow w a1 len S) (hb : Below w.heap.size w w') : StrRow w' a1 len S := fun j hj => by
  obtain ⟨h1, sb, so, rfl, h2⟩ := h j hj
  exact ⟨h1, sb, so, rfl, (hb.cell (World.block_lt_of_cell? w _ h2)).trans h2⟩
end Go.Proofs.YtgcldacpaommiaaDoor
