/- frames: Get's deferred function: the walk. -/
import Derived.Test.YtgcldacpaommiaaDoorFrGot
import Derived.Recover
import Derived.Deep.RegionHeld3
namespace Go.Proofs.YtgcldacpaommiaaDoor
open Go.RowKit Go.Deep

/-- four results in cells of their own. -/
structure Four (w : World) (b : Nat) (n t z e : Value) : Prop where
  c0 : w.cell? ⟨b, 0, none⟩ = some n
  c1 : w.cell? ⟨b + 1, 0, none⟩ = some t
  c2 : w.cell? ⟨b + 2, 0, none⟩ = some z
  c3 : w.cell? ⟨b + 3, 0, none⟩ = some e
  f0 : w.frozen? ⟨b, 0, none⟩ = false
  f1 : w.frozen? ⟨b + 1, 0, none⟩ = false
  f2 : w.frozen? ⟨b + 2, 0, none⟩ = false
  f3 : w.frozen? ⟨b + 3, 0, none⟩ = false

theorem four_alloc {w : World} {b : Nat} {n t z e : Value} (o : Obj) (h : Four w b n t z e) (hlt : b + 3 < w.heap.size) : Four (w.alloc o) b n t z e :=
  ⟨(World.cell?_alloc_old _ _ _ (by show b ≠ w.heap.size; omega)).trans h.c0, (World.cell?_alloc_old _ _ _ (by show b + 1 ≠ w.heap.size; omega)).trans h.c1, (World.cell?_alloc_old _ _ _ (by show b + 2 ≠ w.heap.size; omega)).trans h.c2, (World.cell?_alloc_old _ _ _ (by show b + 3 ≠ w.heap.size; omega)).trans h.c3,
   (World.frozen?_alloc_old _ _ _ (by show b ≠ w.heap.size; omega)).trans h.f0, (World.frozen?_alloc_old _ _ _ (by show b + 1 ≠ w.heap.size; omega)).trans h.f1, (World.frozen?_alloc_old _ _ _ (by show b + 2 ≠ w.heap.size; omega)).trans h.f2, (World.frozen?_alloc_old _ _ _ (by show b + 3 ≠ w.heap.size; omega)).trans h.f3⟩

theorem four_set {w : World} {b : Nat} {n t z e : Value} (h : Four w b n t z e) (x0 x1 x2 x3 : Value) : Four ((((w.setCell ⟨b, 0, none⟩ x0).setCell ⟨b + 1, 0, none⟩ x1).setCell ⟨b + 2, 0, none⟩ x2).setCell ⟨b + 3, 0, none⟩ x3).drew b x0 x1 x2 x3 := by
  obtain ⟨c0, c1, c2, c3, f0, f1, f2, f3⟩ := h
  constructor <;> simp [go_sem, World.cell?_setCell_far, *]

theorem assert_fault (k : Int) (w : World) : (Instr.typeAssert (.iface 61 (.agg #[.int .i64 k])) 20 61 true).run Tryd.prog w = .ok (.tuple #[.agg #[.int .i64 k], .bool true]) w := by
  simp [Instr.typeAssert, run_underlying Tryd.underlying61, go_sem, Result.andThen]

set_option maxHeartbeats 1000000 in
set_option maxRecDepth 100000 in
theorem catch_fault (B b : Nat) (w0 w : World) (k : Int) (n t z e : Value) (hb : B ≤ b) (h4 : Four w b n t z e) (hbel : Below B w0 w) :
    CallsD Tryd.prog 27 #[.pointer (some ⟨b, 0, none⟩), .pointer (some ⟨b + 1, 0, none⟩), .pointer (some ⟨b + 2, 0, none⟩), .pointer (some ⟨b + 3, 0, none⟩)]
      (.panicking ({ v := .iface 61 (.agg #[.int .i64 k]), recovered := false } :: [])) w fun e u' w' =>
      e = .returned (.tuple #[]) ∧ u' = .panicking ({ v := .iface 61 (.agg #[.int .i64 k]), recovered := true } :: []) ∧ Four w' b (.int .u64 0) (.string ⟨#[]⟩) (.int .i64 0) (.int .i64 k) ∧ Below B w0 w' := by
  refine callsD_of_wpS Tryd.func27 rfl fun c₀ cs hu => ?_
  apply wpS_seq
  apply wpS_region
  simp [wpOpsS, go_sem, recoverD, hu, Tryd.ntmps27, Exit.thenS]
  refine wpS_of_wp ?_
  have hta := assert_fault k
  have hlt : b + 3 < w.heap.size := World.block_lt_of_cell? w _ h4.c3
  have c0 := h4.c0
  have c1 := h4.c1
  have c2 := h4.c2
  have c3 := h4.c3
  have f0 := h4.f0
  have f1 := h4.f1
  have f2 := h4.f2
  have f3 := h4.f3
  have Hbel := Lib.hid hbel
  clear h4 hbel
  go_wp2
  have hbm : b + 3 < w.heap.size := hlt
  have Hbel2 := Lib.hid (Hbel.out.alloc (Nat.le_trans hb (by omega) : B ≤ w.heap.size) (.cells #[.int .i64 k] 61))
  have k4 : (w.alloc (.cells #[.int .i64 k] 61)).cell? ⟨w.heap.size, 0, none⟩ = some (.int .i64 k) := by simp [go_sem]
  have h4 := four_alloc (.cells #[.int .i64 k] 61) ⟨c0, c1, c2, c3, f0, f1, f2, f3⟩ hlt
  clear c0 c1 c2 c3 f0 f1 f2 f3 Hbel
  have c0 := h4.c0
  have c1 := h4.c1
  have c2 := h4.c2
  have c3 := h4.c3
  have f0 := h4.f0
  have f1 := h4.f1
  have f2 := h4.f2
  have f3 := h4.f3
  clear h4
  generalize w.alloc (.cells #[.int .i64 k] 61) = W2 at *
  generalize w.heap.size = m at *
  have n0 : m ≠ b := by omega
  have n1 : m ≠ b + 1 := by omega
  have n2 : m ≠ b + 2 := by omega
  have n3 : m ≠ b + 3 := by omega
  have o0 := n0.symm
  have o1 := n1.symm
  have o2 := n2.symm
  have o3 := n3.symm
  go_region_held3 (fun wx => wx.cell? ⟨m, 0, none⟩ = some (.int .i64 k)) (first | go_keep | fail) (first | fail | fail)
  exact ⟨rfl, _, rfl, _, results_none rfl _ _ _, rfl, rfl, four_set ⟨c0, c1, c2, c3, f0, f1, f2, f3⟩ _ _ _ _, ((((Hbel2.out.setCell hb _).setCell (by show B ≤ b + 1; omega) _).setCell (by show B ≤ b + 2; omega) _).setCell (by show B ≤ b + 3; omega) _).drew⟩

set_option maxHeartbeats 1000000 in
set_option maxRecDepth 100000 in
theorem catch_idle (p0 p1 p2 p3 : Value) (w : World) : CallsD Tryd.prog 27 #[p0, p1, p2, p3] .returning w fun e u' w' => e = .returned (.tuple #[]) ∧ u' = .returning ∧ w' = w := by
  refine callsD_of_wpS Tryd.func27 rfl fun c₀ cs hu => ?_
  apply wpS_seq
  apply wpS_region
  simp [wpOpsS, go_sem, recoverD, hu, Tryd.ntmps27, Exit.thenS]
  refine wpS_of_wp ?_
  go_wp2
  exact ⟨rfl, .returning, by cases c₀; simp_all, _, results_none rfl _ _ _, rfl, rfl, rfl⟩
end Go.Proofs.YtgcldacpaommiaaDoor
