/- frames: Same of two slices that read alike: the walk. -/
import Derived.Test.YtgcldacpaommiaaDoorFrSplit
import Derived.Deep.QuietTactic
import Derived.BigQuiet
import Derived.Carry
namespace Go.Proofs.YtgcldacpaommiaaDoor
open Go.RowKit Go.Deep

/-- a slice of writes reads as T below len. -/
def WrAt (w : World) (a1 : Option Addr) (len : Nat) (T : Nat → Wr) : Prop := ∃ sb so, (len ≠ 0 → a1 = some ⟨sb, so, none⟩) ∧ ∀ j, j < len → w.cell? ⟨sb, so + j * 2, none⟩ = some (.int .i64 (T j).at') ∧ w.cell? ⟨sb, so + j * 2 + 1, none⟩ = some (.string (T j).data)
theorem WrRow.at' {w : World} {a1 : Option Addr} {len : Nat} {T : Nat → Wr} (h : WrRow w a1 len T) : WrAt w a1 len T := by
  by_cases hz : len = 0
  · exact ⟨0, 0, fun h => absurd hz h, fun j hj => by omega⟩
  · obtain ⟨_, sb, so, rfl, _, _⟩ := h 0 (by omega)
    refine ⟨sb, so, fun _ => rfl, fun j hj => ?_⟩
    obtain ⟨_, sb', so', e, h1, h2⟩ := h j hj
    injection e with e
    injection e with e1 e2 _
    subst e1 e2
    exact ⟨h1, h2⟩
theorem WrAt.below {w w' : World} {a1 : Option Addr} {len : Nat} {T : Nat → Wr} (h : WrAt w a1 len T) (hb : Below w.heap.size w w') : WrAt w' a1 len T := by
  obtain ⟨sb, so, h1, h2⟩ := h
  exact ⟨sb, so, h1, fun j hj => ⟨(hb.cell (World.block_lt_of_cell? w _ (h2 j hj).1)).trans (h2 j hj).1, (hb.cell (World.block_lt_of_cell? w _ (h2 j hj).2)).trans (h2 j hj).2⟩⟩
theorem WrAt.of_own {w : World} {B n : Nat} {v : Value} {T : Nat → Wr} (h : w.ownsRow B 46 2 v n (wcells T n)) : ∃ a1 cap, v = .slice a1 n cap ∧ WrAt w a1 n T := by
  have hc := fun g => h.cells (g := g)
  rcases h.2 with ⟨rfl, hz⟩ | ⟨g, cap, cur, rfl, h2, h3, h4, _⟩
  · exact ⟨none, 0, by rw [hz], 0, 0, fun h => absurd hz h, fun j hj => by omega⟩
  · refine ⟨_, cap, rfl, g, 0, fun _ => rfl, fun j hj => ?_⟩
    obtain ⟨e1, e2⟩ := wcells_at T n j hj
    have ha : ∀ i, (⟨g, 0, none⟩ : Addr).add i = ⟨g, i, none⟩ := fun i => by unfold Addr.add; split <;> simp_all
    have k1 := hc g rfl _ _ e1
    have k2 := hc g rfl _ _ e2
    rw [ha] at k1 k2
    rw [Nat.zero_add]
    exact ⟨k1, k2⟩

set_option maxHeartbeats 4000000 in
set_option maxRecDepth 100000 in
theorem same_any (a1 a2 : Option Addr) (len c1 c2 : Nat) (T : Nat → Wr) (w : World) (hl : len ≤ 9223372036854775807) (h1 : WrAt w a1 len T) (h2 : WrAt w a2 len T) : Calls Tryd.prog 20 #[.slice a1 len c1, .slice a2 len c2] w fun e w' => e = .returned (.bool true) ∧ Below w.heap.size w w' := by
  obtain ⟨sb, so, ha1, hc1⟩ := h1
  obtain ⟨sb2, so2, ha2, hc2⟩ := h2
  have Hc1 := Lib.hid hc1
  have Hc2 := Lib.hid hc2
  clear hc1 hc2
  by_cases hz : len = 0
  · subst hz
    clear ha1 ha2 Hc1 Hc2
    go_enter Tryd.func20, Tryd.ntmps20
    go_wp2_with fail
    go_loop [5] (fun i => i = .int .i64 0) (fun _ => 0)
    case atStart => rfl
    case round =>
      subst hrel
      go_wp2_with fail
      go_ret
      exact ⟨rfl, Below.refl _ _⟩
  obtain rfl := ha1 hz
  obtain rfl := ha2 hz
  clear ha1 ha2
  go_enter Tryd.func20, Tryd.ntmps20
  go_wp2_with fail
  go_loopw [5] (fun i wr => ∃ k : Nat, k ≤ len ∧ i = .int .i64 k ∧ Below w.heap.size w wr) (fun i _ => len - (intOf i).toNat)
  case atStart => exact ⟨0, by omega, rfl, Below.refl _ _⟩
  case round =>
    obtain ⟨k, hk, rfl, hb⟩ := hrel
    have Hb := Lib.hid hb
    clear hb
    by_cases hlt : k < len
    · obtain ⟨x0, x1⟩ := Hc1.out k hlt
      obtain ⟨y0, y1⟩ := Hc2.out k hlt
      obtain ⟨t, ht⟩ : ∃ t, t = T k := ⟨_, rfl⟩
      rw [← ht] at x0 x1 y0 y1
      clear ht
      have d0 := (Hb.out.cell (World.block_lt_of_cell? w _ x0)).trans x0
      have d1 := (Hb.out.cell (World.block_lt_of_cell? w _ x1)).trans x1
      have e0 := (Hb.out.cell (World.block_lt_of_cell? w _ y0)).trans y0
      have e1 := (Hb.out.cell (World.block_lt_of_cell? w _ y1)).trans y1
      have hkl : (k : Int) < (len : Int) := by omega
      clear x0 x1 y0 y1
      go_wp2_with fail
      go_quiet (fail)
      go_wp2_with fail
      go_roundw
      case rel => exact ⟨k + 1, by omega, by go_num, ⟨Hb.out.os, Hb.out.tape, Hb.out.output, Hb.out.size, Hb.out.block⟩⟩
      case measure => simp [intOf]; omega
    · obtain rfl : k = len := by omega
      go_wp2_with fail
      go_ret
      exact ⟨rfl, Hb.out⟩
end Go.Proofs.YtgcldacpaommiaaDoor
