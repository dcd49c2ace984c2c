/- frames: Get: the walk. -/
import Derived.Test.YtgcldacpaommiaaDoorFrCatch
namespace Go.Proofs.YtgcldacpaommiaaDoor
open Go.RowKit Go.Deep

theorem below4 (w : World) (o0 o1 o2 o3 : Obj) : Below w.heap.size w ((((w.alloc o0).alloc o1).alloc o2).alloc o3) := ((((Below.refl w.heap.size w).alloc (by simp) _).alloc (by simp) _).alloc (by simp; omega) _).alloc (by simp; omega) _
theorem four_set3 {w : World} {b : Nat} {n t z e : Value} (h : Four w b n t z e) (x0 x1 x2 : Value) : Four (((w.setCell ⟨b, 0, none⟩ x0).setCell ⟨b + 1, 0, none⟩ x1).setCell ⟨b + 1 + 1, 0, none⟩ x2) b x0 x1 x2 e := by
  obtain ⟨c0, c1, c2, c3, f0, f1, f2, f3⟩ := h
  constructor <;> simp [go_sem, World.cell?_setCell_far, *]
theorem four_put0 {w : World} {b : Nat} {n t z e : Value} (h : Four w b n t z e) (x : Value) : Four (w.setCell ⟨b, 0, none⟩ x) b x t z e := by
  obtain ⟨c0, c1, c2, c3, f0, f1, f2, f3⟩ := h
  constructor <;> simp [go_sem, World.cell?_setCell_far, *]
theorem four_put1 {w : World} {b : Nat} {n t z e : Value} (h : Four w b n t z e) (x : Value) : Four (w.setCell ⟨b + 1, 0, none⟩ x) b n x z e := by
  obtain ⟨c0, c1, c2, c3, f0, f1, f2, f3⟩ := h
  constructor <;> simp [go_sem, World.cell?_setCell_far, *]
theorem four_put2 {w : World} {b : Nat} {n t z e : Value} (h : Four w b n t z e) (x : Value) : Four (w.setCell ⟨b + 1 + 1, 0, none⟩ x) b n t x e := by
  obtain ⟨c0, c1, c2, c3, f0, f1, f2, f3⟩ := h
  constructor <;> simp [go_sem, World.cell?_setCell_far, *]
theorem four_put3 {w : World} {b : Nat} {n t z e : Value} (h : Four w b n t z e) (x : Value) : Four (w.setCell ⟨b + 1 + 1 + 1, 0, none⟩ x) b n t z x := by
  obtain ⟨c0, c1, c2, c3, f0, f1, f2, f3⟩ := h
  constructor <;> simp [go_sem, World.cell?_setCell_far, *]
theorem four_drew {w : World} {b : Nat} {n t z e : Value} (h : Four w b n t z e) : Four w.drew b n t z e := ⟨h.c0, h.c1, h.c2, h.c3, h.f0, h.f1, h.f2, h.f3⟩
theorem four_new (w : World) (t0 t1 t2 t3 : TypeId) (v0 v1 v2 v3 : Value) : Four ((((w.alloc (.cells #[v0] t0)).alloc (.cells #[v1] t1)).alloc (.cells #[v2] t2)).alloc (.cells #[v3] t3)) w.heap.size v0 v1 v2 v3 := by
  constructor <;> simp [go_sem]

theorem four_below {w w' : World} {b : Nat} {n t z e : Value} (h : Four w b n t z e) (hlt : b + 3 < w.heap.size) (hb : Below w.heap.size w w') : Four w' b n t z e :=
  ⟨(hb.cell (by show b < _; omega)).trans h.c0, (hb.cell (by show b + 1 < _; omega)).trans h.c1, (hb.cell (by show b + 2 < _; omega)).trans h.c2, (hb.cell (by show b + 3 < _; omega)).trans h.c3,
   (hb.frozen (by show b < _; omega)).trans h.f0, (hb.frozen (by show b + 1 < _; omega)).trans h.f1, (hb.frozen (by show b + 2 < _; omega)).trans h.f2, (hb.frozen (by show b + 3 < _; omega)).trans h.f3⟩

set_option maxHeartbeats 1000000 in
set_option maxRecDepth 100000 in
theorem get_fault (s : ByteArray) (w : World) (k : Int) (hst : Steps w)
    (hg : ∀ w, Steps w → Calls Tryd.prog 28 #[.string s] w fun e w' => e = fault k ∧ Below w.heap.size w w') :
    Calls Tryd.prog 14 #[.string s] w fun e w' => e = .returned (.tuple #[.int .u64 0, .string ⟨#[]⟩, .int .i64 0, .int .i64 k]) ∧ Below w.heap.size w w' := by
  unfold fault at hg
  have Hg := Lib.hid hg
  have Hst := Lib.hid hst
  clear hg hst
  have hmf : ∀ (fn : Fn) (first cap : Array Value) (w : World), (Instr.makeFunc fn first cap).run Tryd.prog w = .ok (.func fn first cap) w := fun _ _ _ _ => rfl
  go_enter_defers Tryd.func14, Tryd.ntmps14
  go_wp2_with (go_at_call 28; refine (Hg.out _ (Hst.out.below (below4 _ _ _ _ _))).mono ?_; rintro e w5 ⟨rfl, hb5⟩)
  have hf := four_below (four_new w _ _ _ _ _ _ _ _) (by simp) hb5
  have hbel := (below4 w _ _ _ _).trans (hb5.mono (below4 w _ _ _ _).size)
  refine leaves_cons (f := 27) (args := #[.pointer (some ⟨w.heap.size, 0, none⟩), .pointer (some ⟨w.heap.size + 1, 0, none⟩), .pointer (some ⟨w.heap.size + 1 + 1, 0, none⟩), .pointer (some ⟨w.heap.size + 1 + 1 + 1, 0, none⟩)]) (by simp) (by simp [go_sem]) ?_
  refine (catch_fault w.heap.size w.heap.size w w5 k _ _ _ _ (Nat.le_refl _) hf hbel).mono ?_
  rintro e u' w'' ⟨rfl, rfl, h4, hb⟩
  have c0 := h4.c0
  have c1 := h4.c1
  have c2 : w''.cell? ⟨w.heap.size + 1 + 1, 0, none⟩ = _ := h4.c2
  have c3 : w''.cell? ⟨w.heap.size + 1 + 1 + 1, 0, none⟩ = _ := h4.c3
  simp [Leaves, settle, results, Tryd.results14, go_sem, c0, c1, c2, c3]
  exact hb

set_option maxHeartbeats 2000000 in
set_option maxRecDepth 100000 in
theorem get_found (s t : ByteArray) (n : Nat) (z : Int) (w : World) (hst : Steps w)
    (hg : ∀ w, Steps w → Calls Tryd.prog 28 #[.string s] w fun e w' => e = .returned (.tuple #[.int .u64 n, .string t, .int .i64 z]) ∧ Below w.heap.size w w') :
    Calls Tryd.prog 14 #[.string s] w fun e w' => e = .returned (.tuple #[.int .u64 n, .string t, .int .i64 z, .int .i64 0]) ∧ Below w.heap.size w w' := by
  have Hg := Lib.hid hg
  have Hst := Lib.hid hst
  clear hg hst
  have hmf : ∀ (fn : Fn) (first cap : Array Value) (w : World), (Instr.makeFunc fn first cap).run Tryd.prog w = .ok (.func fn first cap) w := fun _ _ _ _ => rfl
  go_enter_defers Tryd.func14, Tryd.ntmps14
  go_wp2_with (go_at_call 28; refine (Hg.out _ (Hst.out.below (below4 _ _ _ _ _))).mono ?_; rintro e w5 ⟨rfl, hb5⟩; have hf := four_below (four_new w _ _ _ _ _ _ _ _) (by simp) hb5; have Hbel := Lib.hid ((below4 w _ _ _ _).trans (hb5.mono (below4 w _ _ _ _).size)); clear hb5; have c0 := hf.c0; have c1 := hf.c1; have c2 : w5.cell? ⟨w.heap.size + 1 + 1, 0, none⟩ = _ := hf.c2; have c3 : w5.cell? ⟨w.heap.size + 1 + 1 + 1, 0, none⟩ = _ := hf.c3; have f0 := hf.f0; have f1 := hf.f1; have f2 : w5.frozen? ⟨w.heap.size + 1 + 1, 0, none⟩ = _ := hf.f2; have f3 : w5.frozen? ⟨w.heap.size + 1 + 1 + 1, 0, none⟩ = _ := hf.f3; clear hf)
  have h4 : Four (((w5.setCell ⟨w.heap.size, 0, none⟩ (.int .u64 n)).setCell ⟨w.heap.size + 1, 0, none⟩ (.string t)).setCell ⟨w.heap.size + 1 + 1, 0, none⟩ (.int .i64 z)) w.heap.size (.int .u64 n) (.string t) (.int .i64 z) (.int .i64 0) := four_set3 ⟨c0, c1, c2, c3, f0, f1, f2, f3⟩ _ _ _
  have Hbel2 := Lib.hid (((Hbel.out.setCell (p := ⟨w.heap.size, 0, none⟩) (Nat.le_refl _) (.int .u64 n)).setCell (p := ⟨w.heap.size + 1, 0, none⟩) (by simp) (.string t)).setCell (p := ⟨w.heap.size + 1 + 1, 0, none⟩) (by show w.heap.size ≤ w.heap.size + 1 + 1; omega) (.int .i64 z))
  generalize ((w5.setCell ⟨w.heap.size, 0, none⟩ (.int .u64 n)).setCell ⟨w.heap.size + 1, 0, none⟩ (.string t)).setCell ⟨w.heap.size + 1 + 1, 0, none⟩ (.int .i64 z) = W at *
  clear c0 c1 c2 c3 f0 f1 f2 f3
  have c0 := h4.c0
  have c1 := h4.c1
  have c2 : W.cell? ⟨w.heap.size + 1 + 1, 0, none⟩ = _ := h4.c2
  have c3 : W.cell? ⟨w.heap.size + 1 + 1 + 1, 0, none⟩ = _ := h4.c3
  have f0 := h4.f0
  have f1 := h4.f1
  have f2 : W.frozen? ⟨w.heap.size + 1 + 1, 0, none⟩ = _ := h4.f2
  have f3 : W.frozen? ⟨w.heap.size + 1 + 1 + 1, 0, none⟩ = _ := h4.f3
  have K1 := four_put0 h4 (.int .u64 n)
  have K2 := four_put1 K1 (.string t)
  have K3 := four_put2 K2 (.int .i64 z)
  have K4 := four_put3 K3 (.int .i64 0)
  have J0 : Hid (W.drew.cell? ⟨w.heap.size, 0, none⟩ = some (.int .u64 n) ∧ W.drew.cell? ⟨w.heap.size + 1, 0, none⟩ = some (.string t) ∧ W.drew.cell? ⟨w.heap.size + 1 + 1, 0, none⟩ = some (.int .i64 z)) := ⟨h4.c0, h4.c1, h4.c2⟩
  have J1 : Hid ((W.setCell ⟨w.heap.size, 0, none⟩ (.int .u64 n)).drew.cell? ⟨w.heap.size, 0, none⟩ = some (.int .u64 n) ∧ (W.setCell ⟨w.heap.size, 0, none⟩ (.int .u64 n)).drew.cell? ⟨w.heap.size + 1, 0, none⟩ = some (.string t) ∧ (W.setCell ⟨w.heap.size, 0, none⟩ (.int .u64 n)).drew.cell? ⟨w.heap.size + 1 + 1, 0, none⟩ = some (.int .i64 z)) := ⟨K1.c0, K1.c1, K1.c2⟩
  have J2 : Hid (((W.setCell ⟨w.heap.size, 0, none⟩ (.int .u64 n)).setCell ⟨w.heap.size + 1, 0, none⟩ (.string t)).drew.cell? ⟨w.heap.size, 0, none⟩ = some (.int .u64 n) ∧ ((W.setCell ⟨w.heap.size, 0, none⟩ (.int .u64 n)).setCell ⟨w.heap.size + 1, 0, none⟩ (.string t)).drew.cell? ⟨w.heap.size + 1, 0, none⟩ = some (.string t) ∧ ((W.setCell ⟨w.heap.size, 0, none⟩ (.int .u64 n)).setCell ⟨w.heap.size + 1, 0, none⟩ (.string t)).drew.cell? ⟨w.heap.size + 1 + 1, 0, none⟩ = some (.int .i64 z)) := ⟨K2.c0, K2.c1, K2.c2⟩
  have J3 : Hid ((((W.setCell ⟨w.heap.size, 0, none⟩ (.int .u64 n)).setCell ⟨w.heap.size + 1, 0, none⟩ (.string t)).setCell ⟨w.heap.size + 1 + 1, 0, none⟩ (.int .i64 z)).drew.cell? ⟨w.heap.size, 0, none⟩ = some (.int .u64 n) ∧ (((W.setCell ⟨w.heap.size, 0, none⟩ (.int .u64 n)).setCell ⟨w.heap.size + 1, 0, none⟩ (.string t)).setCell ⟨w.heap.size + 1 + 1, 0, none⟩ (.int .i64 z)).drew.cell? ⟨w.heap.size + 1, 0, none⟩ = some (.string t) ∧ (((W.setCell ⟨w.heap.size, 0, none⟩ (.int .u64 n)).setCell ⟨w.heap.size + 1, 0, none⟩ (.string t)).setCell ⟨w.heap.size + 1 + 1, 0, none⟩ (.int .i64 z)).drew.cell? ⟨w.heap.size + 1 + 1, 0, none⟩ = some (.int .i64 z)) := ⟨K3.c0, K3.c1, K3.c2⟩
  have J4 : Hid (((((W.setCell ⟨w.heap.size, 0, none⟩ (.int .u64 n)).setCell ⟨w.heap.size + 1, 0, none⟩ (.string t)).setCell ⟨w.heap.size + 1 + 1, 0, none⟩ (.int .i64 z)).setCell ⟨w.heap.size + 1 + 1 + 1, 0, none⟩ (.int .i64 0)).drew.cell? ⟨w.heap.size, 0, none⟩ = some (.int .u64 n) ∧ ((((W.setCell ⟨w.heap.size, 0, none⟩ (.int .u64 n)).setCell ⟨w.heap.size + 1, 0, none⟩ (.string t)).setCell ⟨w.heap.size + 1 + 1, 0, none⟩ (.int .i64 z)).setCell ⟨w.heap.size + 1 + 1 + 1, 0, none⟩ (.int .i64 0)).drew.cell? ⟨w.heap.size + 1, 0, none⟩ = some (.string t) ∧ ((((W.setCell ⟨w.heap.size, 0, none⟩ (.int .u64 n)).setCell ⟨w.heap.size + 1, 0, none⟩ (.string t)).setCell ⟨w.heap.size + 1 + 1, 0, none⟩ (.int .i64 z)).setCell ⟨w.heap.size + 1 + 1 + 1, 0, none⟩ (.int .i64 0)).drew.cell? ⟨w.heap.size + 1 + 1, 0, none⟩ = some (.int .i64 z)) := ⟨K4.c0, K4.c1, K4.c2⟩
  have Hk4 := Lib.hid K4
  clear h4 K1 K2 K3 K4
  have Hbel3 := Lib.hid ((((Hbel2.out.setCell (p := ⟨w.heap.size, 0, none⟩) (Nat.le_refl _) (.int .u64 n)).setCell (p := ⟨w.heap.size + 1, 0, none⟩) (by simp) (.string t)).setCell (p := ⟨w.heap.size + 1 + 1, 0, none⟩) (by show w.heap.size ≤ w.heap.size + 1 + 1; omega) (.int .i64 z)).setCell (p := ⟨w.heap.size + 1 + 1 + 1, 0, none⟩) (by show w.heap.size ≤ w.heap.size + 1 + 1 + 1; omega) (.int .i64 0)).drew
  clear Hbel
  go_region_held3 (fun wx => wx.cell? ⟨w.heap.size, 0, none⟩ = some (.int .u64 n) ∧ wx.cell? ⟨w.heap.size + 1, 0, none⟩ = some (.string t) ∧ wx.cell? ⟨w.heap.size + 1 + 1, 0, none⟩ = some (.int .i64 z)) (first | with_reducible exact J0.out | with_reducible exact J1.out | with_reducible exact J2.out | with_reducible exact J3.out | with_reducible exact J4.out | fail) (first | fail | fail)
  have h4 : Four (((((W.setCell ⟨w.heap.size, 0, none⟩ (.int .u64 n)).setCell ⟨w.heap.size + 1, 0, none⟩ (.string t)).setCell ⟨w.heap.size + 1 + 1, 0, none⟩ (.int .i64 z)).setCell ⟨w.heap.size + 1 + 1 + 1, 0, none⟩ (.int .i64 0)).drew) w.heap.size (.int .u64 n) (.string t) (.int .i64 z) (.int .i64 0) := four_drew Hk4.out
  clear c0 c1 c2 c3 f0 f1 f2 f3 J0 J1 J2 J3 J4 Hk4
  generalize (((((W.setCell ⟨w.heap.size, 0, none⟩ (.int .u64 n)).setCell ⟨w.heap.size + 1, 0, none⟩ (.string t)).setCell ⟨w.heap.size + 1 + 1, 0, none⟩ (.int .i64 z)).setCell ⟨w.heap.size + 1 + 1 + 1, 0, none⟩ (.int .i64 0)).drew) = W3 at *
  go_wp2
  have c0 := h4.c0
  have c1 := h4.c1
  have c2 : W3.cell? ⟨w.heap.size + 1 + 1, 0, none⟩ = _ := h4.c2
  have c3 : W3.cell? ⟨w.heap.size + 1 + 1 + 1, 0, none⟩ = _ := h4.c3
  refine leaves_cons (f := 27) (args := #[.pointer (some ⟨w.heap.size, 0, none⟩), .pointer (some ⟨w.heap.size + 1, 0, none⟩), .pointer (some ⟨w.heap.size + 1 + 1, 0, none⟩), .pointer (some ⟨w.heap.size + 1 + 1 + 1, 0, none⟩)]) (by simp) (by simp [go_sem]) ?_
  refine (catch_idle _ _ _ _ W3).mono ?_
  rintro e u' w'' ⟨rfl, rfl, rfl⟩
  simp [Leaves, settle, results, Tryd.results14, go_sem, c0, c1, c2, c3]
  exact Hbel3.out
end Go.Proofs.YtgcldacpaommiaaDoor
