/- frames: the reference's Get: the walk. -/
import Derived.Test.YtgcldacpaommiaaDoorFrWhole
namespace Go.Proofs.YtgcldacpaommiaaDoor
open Go.RowKit Go.Deep

def tellV (n : Nat) (t : ByteArray) (z k : Int) : Ending := .returned (.tuple #[.agg #[.int .u64 n, .string t, .int .i64 z], .int .i64 k])

set_option maxHeartbeats 2000000 in
set_option maxRecDepth 100000 in
theorem rget_A (s : ByteArray) (w : World) (hA : s.size < 20) : Calls Tryd.prog 15 #[.string s] w fun e w' => e = tellV 0 ⟨#[]⟩ 0 50 ∧ Below w.heap.size w w' := by
  unfold tellV
  go_enter Tryd.func15, Tryd.ntmps15
  go_wp2_with fail
  refine ⟨rfl, .tuple #[.agg #[.int .u64 0, .string ⟨#[]⟩, .int .i64 0], .int .i64 50], ?_, rfl, (Below.refl _ _).alloc (Nat.le_refl _) _⟩
  simp [results, Tryd.results15, go_sem]

set_option maxHeartbeats 2000000 in
set_option maxRecDepth 100000 in
theorem rget_B (s : ByteArray) (w : World) (hA : 20 ≤ s.size) (hs : s.size ≤ 1000000) (cB : eqB (s.extract 0 4) mark = false) : Calls Tryd.prog 15 #[.string s] w fun e w' => e = tellV 0 ⟨#[]⟩ 0 50 ∧ Below w.heap.size w w' := by
  unfold tellV
  have hm : mark.toList = [72, 71, 70, 82] := by rw [ByteArray.toList_eq]; rfl
  rw [← eqB_toList, hm] at cB
  clear hm
  go_enter Tryd.func15, Tryd.ntmps15
  go_wp2_with fail
  refine ⟨rfl, .tuple #[.agg #[.int .u64 0, .string ⟨#[]⟩, .int .i64 0], .int .i64 50], ?_, rfl, (Below.refl _ _).alloc (Nat.le_refl _) _⟩
  simp [results, Tryd.results15, go_sem]

/-- a result of three cells, none frozen. -/
structure Three (w : World) (b : Nat) (n t z : Value) : Prop where
  c0 : w.cell? ⟨b, 0, none⟩ = some n
  c1 : w.cell? ⟨b, 1, none⟩ = some t
  c2 : w.cell? ⟨b, 2, none⟩ = some z
  f0 : w.frozen? ⟨b, 0, none⟩ = false
  f1 : w.frozen? ⟨b, 1, none⟩ = false
  f2 : w.frozen? ⟨b, 2, none⟩ = false
theorem three_new (w : World) (t0 : TypeId) (n t z : Value) : Three (w.alloc (.cells #[n, t, z] t0)) w.heap.size n t z := by
  constructor <;> simp [go_sem]
theorem three_set {w : World} {b : Nat} {n t z : Value} (h : Three w b n t z) (x0 x1 x2 : Value) : Three (((w.setCell ⟨b, 0, none⟩ x0).setCell ⟨b, 1, none⟩ x1).setCell ⟨b, 2, none⟩ x2) b x0 x1 x2 := by
  obtain ⟨c0, c1, c2, f0, f1, f2⟩ := h
  constructor <;> simp [go_sem, *]
theorem three_below {w w' : World} {b : Nat} {n t z : Value} (h : Three w b n t z) (hlt : b < w.heap.size) (hb : Below w.heap.size w w') : Three w' b n t z :=
  ⟨(hb.cell hlt).trans h.c0, (hb.cell hlt).trans h.c1, (hb.cell hlt).trans h.c2, (hb.frozen hlt).trans h.f0, (hb.frozen hlt).trans h.f1, (hb.frozen hlt).trans h.f2⟩

set_option maxHeartbeats 2000000 in
set_option maxRecDepth 100000 in
theorem rget_C (s : ByteArray) (w : World) (hA : 20 ≤ s.size) (hs : s.size ≤ 1000000) (cB : eqB (s.extract 0 4) mark = true) (cC : eqB (s.extract 16 20) (dig (s.extract 0 16)) = false) : Calls Tryd.prog 15 #[.string s] w fun e w' => e = tellV 0 ⟨#[]⟩ 0 51 ∧ Below w.heap.size w w' := by
  unfold tellV
  have hm : mark.toList = [72, 71, 70, 82] := by rw [ByteArray.toList_eq]; rfl
  rw [← eqB_toList, hm] at cB
  clear hm
  have hr1 := fun w => rdigest_any (s.extract 0 16) w (by rw [ByteArray.size_extract]; omega)
  have cC2 : eqB (s.extract 16 20) (S (digest (s.extract 0 16).data.toList)) = _ := cC
  rw [← eqB_toList] at cC2
  generalize S (digest (s.extract 0 16).data.toList) = d1 at *
  have Hr1 := Lib.hid hr1
  clear hr1 cC
  have i16 : (16 : Int) ≤ (s.size : Int) := by omega
  have i20 : (20 : Int) ≤ (s.size : Int) := by omega
  go_enter Tryd.func15, Tryd.ntmps15
  go_wp2_with fail
  have h3 := three_new w 34 (.int .u64 0) (.string ⟨#[]⟩) (.int .i64 0)
  have Hbel := Lib.hid ((Below.refl w.heap.size w).alloc (Nat.le_refl _) (.cells #[.int .u64 0, .string ⟨#[]⟩, .int .i64 0] 34))
  have hlt : w.heap.size < (w.alloc (.cells #[.int .u64 0, .string ⟨#[]⟩, .int .i64 0] 34)).heap.size := by simp
  generalize w.alloc (.cells #[.int .u64 0, .string ⟨#[]⟩, .int .i64 0] 34) = W at *
  have hw3 : Three W.drew w.heap.size (.int .u64 0) (.string ⟨#[]⟩) (.int .i64 0) := ⟨h3.c0, h3.c1, h3.c2, h3.f0, h3.f1, h3.f2⟩
  have hwb : Below w.heap.size w W.drew := Hbel.out.drew
  have hlt2 : w.heap.size < W.drew.heap.size := hlt
  clear h3 Hbel
  go_region_held3 (fun wx => Three wx w.heap.size (.int .u64 0) (.string ⟨#[]⟩) (.int .i64 0) ∧ Below w.heap.size w wx)
    (first | with_reducible exact ⟨hw3, hwb⟩ | with_reducible exact ⟨hd3, hdb⟩ | fail)
    (first | (go_at_call 26; refine (Hr1.out _).mono ?_; rintro e w2 ⟨rfl, hb2⟩; have hd3 := three_below hw3 hlt2 hb2; have hdb := hwb.trans (hb2.mono hwb.size)) | fail)
  have c0 := hd3.c0
  have c1 := hd3.c1
  have c2 := hd3.c2
  have f0 := hd3.f0
  have f1 := hd3.f1
  have f2 := hd3.f2
  clear hd3 hw3
  go_wp2_with fail
  have k3 := three_set ⟨c0, c1, c2, f0, f1, f2⟩ (.int .u64 0) (.string ⟨#[]⟩) (.int .i64 0)
  have kb := ((hdb.setCell (p := ⟨w.heap.size, 0, none⟩) (Nat.le_refl _) (.int .u64 0)).setCell (p := ⟨w.heap.size, 1, none⟩) (Nat.le_refl _) (.string ⟨#[]⟩)).setCell (p := ⟨w.heap.size, 2, none⟩) (Nat.le_refl _) (.int .i64 0)
  refine ⟨rfl, .tuple #[.agg #[.int .u64 0, .string ⟨#[]⟩, .int .i64 0], .int .i64 51], ?_, rfl, kb⟩
  simp [results, Tryd.results15, go_sem, k3.c0, k3.c1, k3.c2]
end Go.Proofs.YtgcldacpaommiaaDoor
