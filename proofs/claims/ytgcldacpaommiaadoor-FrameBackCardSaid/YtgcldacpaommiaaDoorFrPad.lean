/- frames: Pad, Sectors, the program's and the reference's: the walks. -/
import Derived.Test.YtgcldacpaommiaaDoorFrFields
namespace Go.Proofs.YtgcldacpaommiaaDoor
open Go.RowKit Go.Deep

theorem ret_str {a b : ByteArray} (h : a = b) : Ending.returned (.string a) = .returned (.string b) := by rw [h]
theorem app_S (s : ByteArray) (l : List UInt8) : s ++ S l = S (s.data.toList ++ l) := by
  apply ByteArray.ext
  simp [S]

theorem zero_cells (w : World) (m : Nat) : ((w.alloc (.cells (madeCells #[.int .u8 0] m) 5)).rowIs w.heap.size 5 m (fun _ => .int .u8 0)) := World.rowIs_made w (.int .u8 0) m 5
theorem zero_string (w : World) (m : Nat) : (convert 40 9 (.slice (some ⟨w.heap.size, 0, none⟩) m m)).run Tryd.prog (w.alloc (.cells (madeCells #[.int .u8 0] m) 5)) = .ok (.string (S (List.replicate m 0))) (w.alloc (.cells (madeCells #[.int .u8 0] m) 5)) := by
  have := run_convert_bytes_arg (w.alloc (.cells (madeCells #[.int .u8 0] m) 5)) 40 5 Tryd.underlying40 Tryd.underlying5 w.heap.size 0 m m ((List.replicate m (0 : UInt8)).map fun c => (c.toNat : Int)) (by simp) (fun i hi => by
    rw [Nat.zero_add, (zero_cells w m).cell hi]
    simp [List.getD_eq_getElem?_getD, hi]) 9 Tryd.underlying9
  rw [str_bytes] at this
  exact this

set_option maxHeartbeats 1000000 in
set_option maxRecDepth 100000 in
theorem pad_any (s : ByteArray) (w : World) (hs : s.size ≤ 1000000) : Calls Tryd.prog 22 #[.string s, .int .i64 512] w fun e w' => e = .returned (.string (S (padL s.data.toList))) ∧ Below w.heap.size w w' := by
  by_cases h : s.size % 512 = 0
  · have hp : S (padL s.data.toList) = s := by unfold padL; rw [data_len, if_pos h]; rfl
    rw [hp]
    have e1 : ((s.size : Int) % 512 == 0) = true := by simp; omega
    clear h hp
    go_enter Tryd.func22, Tryd.ntmps22
    go_wp2_with fail
    go_ret
    exact ⟨rfl, Below.refl _ _⟩
  · obtain ⟨m, hm⟩ : ∃ m, m = 512 - s.size % 512 := ⟨_, rfl⟩
    have hp : S (padL s.data.toList) = S (s.data.toList ++ List.replicate m 0) := by unfold padL; rw [data_len, if_neg h, hm]
    rw [hp]
    have e1 : ((s.size : Int) % 512 == 0) = false := by simp; omega
    have e2 : (512 : Int) - (s.size : Int) % 512 = (m : Int) := by omega
    have hm9 : m ≤ 512 := by omega
    have hmk := run_make_row' (P := Tryd.prog) 40 5 (.int .u8 0) 1 Tryd.underlying40 b_info rfl .i64 .i64 m (by omega) (by omega)
    have hz := fun w => zero_string w m
    have hsz : (S (List.replicate m 0)).size = m := by simp [S_size]
    clear h hp hm
    go_enter Tryd.func22, Tryd.ntmps22
    go_wp2_with fail
    go_ret
    exact ⟨ret_str (app_S s _), (Below.refl _ _).alloc (Nat.le_refl _) _⟩
set_option maxHeartbeats 1000000 in
set_option maxRecDepth 100000 in
theorem rpad_any (s : ByteArray) (w : World) (hs : s.size ≤ 1000000) : Calls Tryd.prog 25 #[.string s, .int .i64 512] w fun e w' => e = .returned (.string (S (padL s.data.toList))) ∧ Below w.heap.size w w' := by
  by_cases h : s.size % 512 = 0
  · have hp : S (padL s.data.toList) = s := by unfold padL; rw [data_len, if_pos h]; rfl
    rw [hp]
    have e1 : ((s.size : Int) % 512 == 0) = true := by simp; omega
    clear h hp
    go_enter Tryd.func25, Tryd.ntmps25
    go_wp2_with fail
    go_ret
    exact ⟨rfl, Below.refl _ _⟩
  · obtain ⟨m, hm⟩ : ∃ m, m = 512 - s.size % 512 := ⟨_, rfl⟩
    have hp : S (padL s.data.toList) = S (s.data.toList ++ List.replicate m 0) := by unfold padL; rw [data_len, if_neg h, hm]
    rw [hp]
    have e1 : ((s.size : Int) % 512 == 0) = false := by simp; omega
    have e2 : (512 : Int) - (s.size : Int) % 512 = (m : Int) := by omega
    have hm9 : m ≤ 512 := by omega
    have hmk := run_make_row' (P := Tryd.prog) 40 5 (.int .u8 0) 1 Tryd.underlying40 b_info rfl .i64 .i64 m (by omega) (by omega)
    have hz := fun w => zero_string w m
    have hsz : (S (List.replicate m 0)).size = m := by simp [S_size]
    clear h hp hm
    go_enter Tryd.func25, Tryd.ntmps25
    go_wp2_with fail
    go_ret
    exact ⟨ret_str (app_S s _), (Below.refl _ _).alloc (Nat.le_refl _) _⟩
theorem ret_int {k : IntKind} {a b : Int} (h : a = b) : Ending.returned (.int k a) = .returned (.int k b) := by rw [h]

theorem sectors_any (len : Int) (w : World) : Calls Tryd.prog 12 #[.int .i64 len] w fun e w' => e = .returned (.int .i64 (sectors len)) ∧ w = w' := by
  by_cases h1 : len < 0
  · have hs : sectors len = 0 := by unfold sectors; rw [if_pos (.inl h1)]
    have Hs := Lib.hid hs
    clear hs
    have d1 : decide (len < 0) = true := by simp; omega
    go_enter Tryd.func12, Tryd.ntmps12
    go_wp2_with fail
    go_ret
    exact ⟨ret_int Hs.out.symm, rfl⟩
  have d1 : decide (len < 0) = false := by simp; omega
  by_cases h2 : 65536 < len
  · have hs : sectors len = 0 := by unfold sectors; rw [if_pos (.inr h2)]
    have Hs := Lib.hid hs
    clear hs
    have d2 : decide (65536 < len) = true := by simp; omega
    go_enter Tryd.func12, Tryd.ntmps12
    go_wp2_with fail
    go_ret
    exact ⟨ret_int Hs.out.symm, rfl⟩
  have d2 : decide (65536 < len) = false := by simp; omega
  have hs : sectors len = (len + 24 + 512 - 1) / 512 := by unfold sectors; rw [if_neg (by omega)]; omega
  have Hs := Lib.hid hs
  clear hs
  go_enter Tryd.func12, Tryd.ntmps12
  go_wp2_with fail
  go_ret
  exact ⟨ret_int Hs.out.symm, rfl⟩

theorem rsectors_any (len : Int) (w : World) : Calls Tryd.prog 13 #[.int .i64 len] w fun e w' => e = .returned (.int .i64 (sectors len)) ∧ w = w' := by
  by_cases h1 : len < 0
  · have hs : sectors len = 0 := by unfold sectors; rw [if_pos (.inl h1)]
    have Hs := Lib.hid hs
    clear hs
    have d1 : decide (len < 0) = true := by simp; omega
    go_enter Tryd.func13, Tryd.ntmps13
    go_wp2_with fail
    go_ret
    exact ⟨ret_int Hs.out.symm, rfl⟩
  have d1 : decide (len < 0) = false := by simp; omega
  by_cases h2 : 65536 < len
  · have hs : sectors len = 0 := by unfold sectors; rw [if_pos (.inr h2)]
    have Hs := Lib.hid hs
    clear hs
    have d2 : decide (65536 < len) = true := by simp; omega
    go_enter Tryd.func13, Tryd.ntmps13
    go_wp2_with fail
    go_ret
    exact ⟨ret_int Hs.out.symm, rfl⟩
  have d2 : decide (65536 < len) = false := by simp; omega
  have hs : sectors len = (20 + len + 4 + 511) / 512 := by unfold sectors; rw [if_neg (by omega)]; omega
  have Hs := Lib.hid hs
  clear hs
  go_enter Tryd.func13, Tryd.ntmps13
  go_wp2_with fail
  go_ret
  exact ⟨ret_int Hs.out.symm, rfl⟩
end Go.Proofs.YtgcldacpaommiaaDoor
