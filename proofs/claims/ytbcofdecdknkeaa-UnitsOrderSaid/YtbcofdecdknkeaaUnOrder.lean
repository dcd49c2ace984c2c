/- units: UnitsOrder: the plain law, and the walk. -/
import Derived.Test.YtbcofdecdknkeaaUnSort
import Derived.Test.YtbcofdecdknkeaaUnRefName
namespace Go.Proofs.Ytbcofdecdknkeaa
open Go.RowKit Go.Deep Go.Maps

def whyOf (a : Int) : Int := 1 + a % 4
theorem whyOf_range (a : Int) : 1 ≤ whyOf a ∧ whyOf a ≤ 4 := by unfold whyOf; omega
/-- one more is added to what is wanted. -/
def addW (l : List Int) (x : Int) : List Int := if l.getLast? = some x then l else if l.length = 8 then l.tail ++ [x] else l ++ [x]
def wants (Z : Nat → Int) : Nat → List Int
  | 0 => []
  | k + 1 => addW (wants Z k) (whyOf (Z k))
theorem addW_len {l : List Int} (x : Int) (h : l.length ≤ 8) : (addW l x).length ≤ 8 := by
  unfold addW
  split
  · exact h
  · split
    · simp; omega
    · simp; omega
theorem wants_len (Z : Nat → Int) (k : Nat) : (wants Z k).length ≤ 8 := by
  induction k with
  | zero => simp [wants]
  | succ k ih => exact addW_len _ ih
/-- all that waits waits at one unit for one host. -/
def one (lun : Int) (host : ByteArray) (l : List Int) : Int → ByteArray → List Int := upd (fun _ _ => []) lun host l
theorem one_at (lun : Int) (host : ByteArray) (l : List Int) : one lun host l lun host = l := upd_same _ _ _ _
theorem one_upd (lun : Int) (host : ByteArray) (l m : List Int) : upd (one lun host l) lun host m = one lun host m := by
  funext a b
  unfold one upd
  split <;> rfl
theorem one_nil (lun : Int) (host : ByteArray) : one lun host [] = fun _ _ => [] := upd_id _ _ _ _ rfl
theorem one_addR (lun : Int) (host : ByteArray) (l : List Int) (x : Int) (h1 : 0 ≤ lun) (h2 : lun < 8) (hx : 1 ≤ x ∧ x ≤ 4) (hn : nameB host = true) : addR (one lun host l) lun host x = decide (l.getLast? ≠ some x) := by
  unfold addR
  rw [decide_eq_true ⟨h1, h2, hx.1, hx.2⟩, hn, one_at, Bool.eq_iff_iff]
  simp
theorem one_addF (lun : Int) (host : ByteArray) (l : List Int) (x : Int) (h1 : 0 ≤ lun) (h2 : lun < 8) (hx : 1 ≤ x ∧ x ≤ 4) (hn : nameB host = true) : addF (one lun host l) lun host x = one lun host (addW l x) := by
  unfold addF addW
  rw [one_addR lun host l x h1 h2 hx hn, one_at]
  by_cases h : l.getLast? = some x
  · rw [if_pos h, if_neg (by simp [h])]
  · rw [if_neg h, if_pos (by simp [h]), one_upd]
    split <;> rfl

/-- a slice of numbers as it came in. -/
def IntRow (w : World) (a1 : Option Addr) (len : Nat) (Z : Nat → Int) : Prop := ∀ j, j < len → (Lit.int .i64 (Z j)).wf = true ∧ ∃ sb so, a1 = some ⟨sb, so, none⟩ ∧ w.cell? ⟨sb, so + j, none⟩ = some (.int .i64 (Z j))
theorem IntRow.below {w w' : World} {a1 : Option Addr} {len : Nat} {Z : Nat → Int} (h : IntRow w a1 len Z) (hb : Below w.heap.size w w') : IntRow w' a1 len Z := fun j hj => by
  obtain ⟨h1, sb, so, rfl, h2⟩ := h j hj
  exact ⟨h1, sb, so, rfl, (hb.cell (World.block_lt_of_cell? w _ h2)).trans h2⟩
end Go.Proofs.Ytbcofdecdknkeaa
