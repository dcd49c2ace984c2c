/- frames: FrameTurned: the walk. -/
import Derived.Test.YtgcldacpaommiaaDoorFrTurn
import Derived.Laws.IdiomStrings
namespace Go.Proofs.YtgcldacpaommiaaDoor
open Go.RowKit Go.Deep

set_option maxHeartbeats 2000000 in
set_option maxRecDepth 100000 in
theorem frameTurned_long (n : Nat) (t : ByteArray) (a0 a1 : Int) (w : World) (hst : Steps w) (ht : t.size ≤ 9223372036854775807) (h5 : 5000 < t.size) : Calls Tryd.prog 5 #[.int .u64 n, .string t, .agg #[.int .i64 a0, .int .i64 a1]] w fun e w' => e = .returned (.bool true) ∧ Below w.heap.size w w' := by
  have hwk := fun w h => wakes_any w h
  have Hwk := Lib.hid hwk
  have Hst := Lib.hid hst
  clear hwk hst
  go_enter Tryd.func5, Tryd.ntmps5
  go_wp2_with (first
      | (go_at_call 9; have Hb := Lib.hid ((Below.refl w.heap.size w).alloc (Nat.le_refl _) (.cells #[.int .i64 a0, .int .i64 a1] 38)); refine (Hwk.out _ (Hst.out.below Hb.out)).mono ?_; rintro e w1 ⟨rfl, hb1⟩)
      | fail)
  go_ret
  exact ⟨rfl, Hb.out.trans (hb1.mono Hb.out.size)⟩

/-! ### a text's bytes in memory -/
def cvC (s : ByteArray) (w : World) : Nat := grownCap w s.size 0 5
def cvW (s : ByteArray) (w : World) : World := w.drew.alloc (.cells (bytesRow s (cvC s w)) 5 ((bytesRow s (cvC s w)).size, (bytesRow s (cvC s w)).size + 1))
theorem cv_run (s : ByteArray) (w : World) : (convert 9 40 (.string s)).run Tryd.prog w = .ok (.slice (some ⟨w.heap.size, 0, none⟩) s.size (cvC s w)) (cvW s w) :=
  run_bytes_of_string w 9 40 5 s Tryd.underlying9 Tryd.underlying40 Tryd.underlying5
theorem cv_block (s : ByteArray) (w : World) : (cvW s w).heap[w.heap.size]? = some (.cells (bytesRow s (cvC s w)) 5 ((bytesRow s (cvC s w)).size, (bytesRow s (cvC s w)).size + 1)) := by
  show (w.heap.push _)[w.heap.size]? = _
  simp
theorem cv_cell (s : ByteArray) (w : World) (i : Nat) (hi : i < s.size) : (cvW s w).cell? ⟨w.heap.size, i, none⟩ = some (.int .u8 ((s.data.toList.getD i 0).toNat : Int)) := by
  have h1 := bytesRow_at s (cvC s w) i hi
  have h2 := cv_block s w
  simp [World.cell?, h2, h1, List.getD_eq_getElem?_getD, List.getElem?_eq_getElem (l := s.data.toList) (by rw [data_len]; exact hi)]
theorem cv_free (s : ByteArray) (w : World) (i : Nat) (hi : i < s.size) : (cvW s w).frozen? ⟨w.heap.size, i, none⟩ = false := by
  have h2 := cv_block s w
  have h3 : s.size ≤ (bytesRow s (cvC s w)).size := by
    unfold bytesRow
    rw [Array.size_append, Array.size_map]
    exact Nat.le_add_right _ _
  simp [World.frozen?, h2]
  omega
theorem cv_below (s : ByteArray) (w : World) : Below w.heap.size w (cvW s w) := (Below.drew (Below.refl w.heap.size w)).alloc (Nat.le_refl _) _
theorem cv_size (s : ByteArray) (w : World) : (cvW s w).heap.size = w.heap.size + 1 := by unfold cvW; simp
theorem set_cell (s : ByteArray) (w : World) (k : Nat) (c : UInt8) (i : Nat) (hi : i < s.size) : ((cvW s w).setCell ⟨w.heap.size, k, none⟩ (.int .u8 (c.toNat : Int))).cell? ⟨w.heap.size, i, none⟩ = some (.int .u8 (((s.data.toList.set k c).getD i 0).toNat : Int)) := by
  have h1 := cv_cell s w i hi
  by_cases hk : k = i
  · subst hk
    rw [World.cell?_setCell_same _ _ _ h1]
    simp [List.getD_eq_getElem?_getD, List.getElem?_set_self (l := s.data.toList) (by rw [data_len]; exact hi)]
  · rw [World.cell?_setCell_other _ _ _ _ (by simp), h1]
    simp [List.getD_eq_getElem?_getD, List.getElem?_set_ne hk]
theorem back_run (s : ByteArray) (w w2 : World) (k : Nat) (c : UInt8) (hb : Below ((cvW s w).setCell ⟨w.heap.size, k, none⟩ (.int .u8 (c.toNat : Int))).heap.size ((cvW s w).setCell ⟨w.heap.size, k, none⟩ (.int .u8 (c.toNat : Int))) w2) (cap : Nat) :
    (convert 40 9 (.slice (some ⟨w.heap.size, 0, none⟩) s.size cap)).run Tryd.prog w2 = .ok (.string (S (s.data.toList.set k c))) w2 := by
  have hsz : w.heap.size < ((cvW s w).setCell ⟨w.heap.size, k, none⟩ (.int .u8 (c.toNat : Int))).heap.size := by simp [cv_size]
  have hl : (s.data.toList.set k c).length = s.size := by rw [List.length_set, data_len]
  have := run_convert_bytes_arg (P := Tryd.prog) w2 40 5 Tryd.underlying40 Tryd.underlying5 w.heap.size 0 s.size cap ((s.data.toList.set k c).map fun c => (c.toNat : Int)) (by rw [List.length_map, hl]) (fun i hi => by
    rw [Nat.zero_add, hb.cell (p := ⟨w.heap.size, i, none⟩) hsz, set_cell s w k c i hi]
    have hil : i < (s.data.toList.set k c).length := by rw [hl]; exact hi
    rw [List.getD_eq_getElem?_getD, List.getD_eq_getElem?_getD, List.getElem?_map, List.getElem?_eq_getElem hil]
    rfl) 9 Tryd.underlying9
  rw [str_bytes] at this
  exact this

theorem byte_of (a : Int) : ∃ c : UInt8, a % 256 = (c.toNat : Int) := ⟨UInt8.ofNat (a % 256).toNat, by
  rw [UInt8.toNat_ofNat']
  omega⟩
theorem place_of (a : Int) (l : Nat) (_hl : l ≤ 5000) : ∃ k : Nat, (IntKind.u64.wrap a).tmod (24 + (l : Int)) = (k : Int) ∧ k < 24 + l := by
  have h0 : 0 ≤ IntKind.u64.wrap a := by
    simp only [IntKind.wrap, IntKind.signed, IntKind.bits]
    simp
    omega
  refine ⟨((IntKind.u64.wrap a).tmod (24 + (l : Int))).toNat, ?_, ?_⟩
  · rw [Int.tmod_eq_emod_of_nonneg h0]
    have := Int.emod_nonneg (IntKind.u64.wrap a) (b := 24 + (l : Int)) (by omega)
    omega
  · rw [Int.tmod_eq_emod_of_nonneg h0]
    have := Int.emod_nonneg (IntKind.u64.wrap a) (b := 24 + (l : Int)) (by omega)
    have := Int.emod_lt_of_pos (IntKind.u64.wrap a) (b := 24 + (l : Int)) (by omega)
    omega

set_option maxHeartbeats 2000000 in
set_option maxRecDepth 100000 in
theorem frameTurned_short (n : Nat) (t : ByteArray) (a0 a1 : Int) (w : World) (hst : Steps w) (hn : n < 18446744073709551616) (h5 : t.size ≤ 5000) : Calls Tryd.prog 5 #[.int .u64 n, .string t, .agg #[.int .i64 a0, .int .i64 a1]] w fun e w' => e = .returned (.bool true) ∧ Below w.heap.size w w' := by
  have hwk := fun w h => wakes_any w h
  have hp := fun w h => put_frame n t w h (by omega)
  have hfl := frameL_length n t.data.toList
  have hsl := secs_le t.size (by omega)
  rw [data_len] at hfl
  obtain ⟨c, hc⟩ := byte_of a1
  obtain ⟨k, hk, hk2⟩ := place_of a0 t.size h5
  have hg1 := fun hne => get_turned n t.data.toList k c (by rw [data_len]; omega) (by rw [data_len]; omega) hne
  have hg2 := fun w h => get_frame (S (frameL n t.data.toList)) n t.data.toList [] (by simp [S_list]) hn (by rw [data_len]; omega) (by rw [S_size, hfl]; omega) w h
  rw [S_data] at hg2
  have hcb := fun w w2 hb => back_run (S (frameL n t.data.toList)) w w2 k c hb
  have hin : (k : Int) < (S (frameL n t.data.toList)).size := by rw [S_size, hfl]; omega
  have hfs : t.size + 24 ≤ (S (frameL n t.data.toList)).size ∧ (S (frameL n t.data.toList)).size ≤ 70000 := by rw [S_size, hfl]; omega
  have heq : S ((frameL n t.data.toList).set k c) = S (frameL n t.data.toList) ↔ (frameL n t.data.toList).set k c = frameL n t.data.toList := ⟨S_inj, fun h => by rw [h]⟩
  rw [S_list] at hcb
  generalize S ((frameL n t.data.toList).set k c) = tr at *
  generalize S (frameL n t.data.toList) = fr at *
  obtain ⟨hf1, hf2⟩ := hfs
  have hcv := fun w => cv_run fr w
  have hcc := fun w => cv_cell fr w k (by omega)
  have hcf := fun w => cv_free fr w k (by omega)
  generalize (fr.data.toList.getD k 0).toNat = old at *
  clear hfl hsl
  have hcb0 := fun w => hcb w _ (Below.refl _ _)
  have Hwk := Lib.hid hwk
  have Hst := Lib.hid hst
  have Hp := Lib.hid hp
  have Hcb := Lib.hid hcb
  clear hwk hst hn hp hcb
  by_cases hsame : tr = fr
  · subst hsame
    have Hg2 := Lib.hid hg2
    clear hg1 hg2 heq
    go_enter Tryd.func5, Tryd.ntmps5
    go_wp2_with (first
      | (go_at_call 10; have Hb := Lib.hid ((Below.refl w.heap.size w).alloc (Nat.le_refl _) (.cells #[.int .i64 a0, .int .i64 a1] 38)); refine (Hp.out _ (Hst.out.below Hb.out)).mono ?_; rintro e w1 ⟨rfl, hb1⟩; have c0 : w1.cell? ⟨w.heap.size, 0, none⟩ = some (.int .i64 a0) := (hb1.cell (by simp)).trans (by simp [go_sem]); have Hb1 := Lib.hid (Hb.out.trans (hb1.mono Hb.out.size)); have Hb2 := Lib.hid (Hb1.out.trans ((cv_below tr w1).mono Hb1.out.size)); have Hb3 := Lib.hid (Hb2.out.setCell (p := ⟨w1.heap.size, k, none⟩) Hb1.out.size (.int .u8 (c.toNat : Int))); clear hb1)
      | (go_at_call 14; refine (Hg2.out _ (Hst.out.below Hb3.out)).mono ?_; rintro e w2 ⟨rfl, hb2⟩; have hcb2 := Hcb.out w1 w2 hb2; have Hb4 := Lib.hid (Hb3.out.trans (hb2.mono Hb3.out.size)); clear hb2)
      | (go_at_call 9; refine (Hwk.out _ (Hst.out.below Hb4.out)).mono ?_; rintro e w5 ⟨rfl, hb5⟩; have Hb5 := Lib.hid (Hb4.out.trans (hb5.mono Hb4.out.size)); clear hb5)
      | fail)
    go_ret
    exact ⟨rfl, Hb5.out⟩
  · have hne : (tr.toList == fr.toList) = false := by
      rw [eqB_toList]
      exact decide_eq_false hsame
    obtain ⟨er, her, hg⟩ := hg1 fun h => hsame (heq.2 h)
    have Hg2 := Lib.hid hg
    have her2 : (er != 0) = true := by simpa using her
    clear hg1 hg2 heq hg hsame her
    go_enter Tryd.func5, Tryd.ntmps5
    go_wp2_with (first
      | (go_at_call 10; have Hb := Lib.hid ((Below.refl w.heap.size w).alloc (Nat.le_refl _) (.cells #[.int .i64 a0, .int .i64 a1] 38)); refine (Hp.out _ (Hst.out.below Hb.out)).mono ?_; rintro e w1 ⟨rfl, hb1⟩; have c0 : w1.cell? ⟨w.heap.size, 0, none⟩ = some (.int .i64 a0) := (hb1.cell (by simp)).trans (by simp [go_sem]); have Hb1 := Lib.hid (Hb.out.trans (hb1.mono Hb.out.size)); have Hb2 := Lib.hid (Hb1.out.trans ((cv_below fr w1).mono Hb1.out.size)); have Hb3 := Lib.hid (Hb2.out.setCell (p := ⟨w1.heap.size, k, none⟩) Hb1.out.size (.int .u8 (c.toNat : Int))); clear hb1)
      | (go_at_call 14; refine (Hg2.out _ (Hst.out.below Hb3.out)).mono ?_; rintro e w2 ⟨rfl, hb2⟩; have hcb2 := Hcb.out w1 w2 hb2; have Hb4 := Lib.hid (Hb3.out.trans (hb2.mono Hb3.out.size)); clear hb2)
      | (go_at_call 9; refine (Hwk.out _ (Hst.out.below Hb4.out)).mono ?_; rintro e w5 ⟨rfl, hb5⟩; have Hb5 := Lib.hid (Hb4.out.trans (hb5.mono Hb4.out.size)); clear hb5)
      | fail)
    go_ret
    exact ⟨rfl, Hb5.out⟩
theorem frameTurned_any (n : Nat) (t : ByteArray) (a0 a1 : Int) (w : World) (hst : Steps w) (hn : n < 18446744073709551616) (ht : t.size ≤ 9223372036854775807) : Calls Tryd.prog 5 #[.int .u64 n, .string t, .agg #[.int .i64 a0, .int .i64 a1]] w fun e w' => e = .returned (.bool true) ∧ Below w.heap.size w w' := by
  by_cases h : 5000 < t.size
  · exact frameTurned_long n t a0 a1 w hst ht h
  · exact frameTurned_short n t a0 a1 w hst hn (by omega)
end Go.Proofs.YtgcldacpaommiaaDoor
