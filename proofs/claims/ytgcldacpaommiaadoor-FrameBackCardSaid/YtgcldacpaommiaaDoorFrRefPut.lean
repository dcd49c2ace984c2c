/- frames: the reference's numbers in bytes, its sum: the walks. -/
import Derived.Test.YtgcldacpaommiaaDoorFrDigest
namespace Go.Proofs.YtgcldacpaommiaaDoor
open Go.RowKit Go.Deep

theorem bigL_get (v n j : Nat) (h : j < n) : (bigL v n).getD j 0 = UInt8.ofNat (v / 256 ^ (n - 1 - j) % 256) := by simp [bigL, List.getD_eq_getElem?_getD, h]
theorem litL_get (v n j : Nat) (h : j < n) : (litL v n).getD j 0 = UInt8.ofNat (v / 256 ^ j % 256) := by simp [litL, List.getD_eq_getElem?_getD, h]
/-- a row of bytes: k of them are filled, from the end; from the start. -/
def fromEnd (l : List UInt8) (n k : Nat) : Nat → Value := fun j => if n ≤ j + k then .int .u8 ((l.getD j 0).toNat : Int) else .int .u8 0
def fromStart (l : List UInt8) (k : Nat) : Nat → Value := fun j => if j < k then .int .u8 ((l.getD j 0).toNat : Int) else .int .u8 0

theorem row_string (w : World) (b n : Nat) (l : List UInt8) (hl : l.length = n) (h : w.rowIs b 5 n (fun j => .int .u8 ((l.getD j 0).toNat : Int))) : (convert 40 9 (.slice (some ⟨b, 0, none⟩) n n)).run Tryd.prog w = .ok (.string (S l)) w := by
  have := run_convert_bytes_arg w 40 5 Tryd.underlying40 Tryd.underlying5 b 0 n n (l.map fun c => (c.toNat : Int)) (by simp; omega) (fun i hi => by
    rw [Nat.zero_add, h.cell hi]
    simp [List.getD_eq_getElem?_getD, show i < l.length by omega]) 9 Tryd.underlying9
  rw [str_bytes] at this
  exact this

set_option maxHeartbeats 1000000 in
set_option maxRecDepth 100000 in
theorem rputBig_any (v n : Nat) (w : World) (hn1 : 1 ≤ n) (hn : n ≤ 8) (hv : v < 18446744073709551616) : Calls Tryd.prog 24 #[.int .u64 v, .int .i64 n] w fun e w' => e = .returned (.string (S (bigL v n))) ∧ Below w.heap.size w w' := by
  have hmk := run_make_row' (P := Tryd.prog) 40 5 (.int .u8 0) 1 Tryd.underlying40 b_info rfl .i64 .i64 n (by omega) (by omega)
  go_enter Tryd.func24, Tryd.ntmps24
  go_wp2_with fail
  clear hmk
  go_loopw [0, 6] (fun x i wr => ∃ k y : Nat, k ≤ n ∧ i = .int .i64 ((n : Int) - 1 - k) ∧ x = .int .u64 y ∧ y < 18446744073709551616 ∧ Hid (y = v / 256 ^ k) ∧ Hid (wr.rowIs w.heap.size 5 n (fromEnd (bigL v n) n k)) ∧ Hid (Below w.heap.size w wr)) (fun _ i _ => (intOf i + 1).toNat)
  case atStart => exact ⟨0, v, by omega, by simp, rfl, hv, by simp [Hid], (World.rowIs_made w (.int .u8 0) n _).congr (fun j hj => by simp [fromEnd]; omega), (Below.refl _ _).alloc (Nat.le_refl _) _⟩
  case round =>
    obtain ⟨k, y, hk, rfl, rfl, hyl, hy, hrow, hb⟩ := hrel
    by_cases hlt : k < n
    · obtain ⟨i, hi⟩ : ∃ i, i = n - 1 - k := ⟨_, rfl⟩
      have hii : (n : Int) - 1 - k = i := by omega
      have hcl : wr.cell? ⟨w.heap.size, i, none⟩ = some (.int .u8 0) := by
        rw [hrow.out.cell (by omega)]
        unfold fromEnd
        rw [if_neg (by omega)]
      have hfz := hrow.out.frozen i
      rw [hii]
      have hil : i < n := by omega
      have HI := Lib.hid hi
      clear hii hi
      go_wp2_with fail
      go_roundw
      case rel =>
        have hi := HI.out
        exact ⟨k + 1, y / 256, by omega, by go_num, by go_num, by omega, by
          show y / 256 = v / 256 ^ (k + 1)
          rw [hy.out, Nat.pow_succ, Nat.div_div_eq_div_mul], (hrow.out.set i _).congr (fun j hj => by
          unfold fromEnd
          by_cases hji : j = i
          · rw [if_pos hji, if_pos (by omega), bigL_get _ _ _ hj, byte_val, hji, show n - 1 - i = k by omega, ← hy.out]
          · rw [if_neg hji]
            by_cases h2 : n ≤ j + k
            · rw [if_pos h2, if_pos (by omega)]
            · rw [if_neg h2, if_neg (by omega)]), hb.out.setCell (Nat.le_refl _) _⟩
      case measure => simp [intOf]
    · obtain rfl : k = n := by omega
      have hcv := row_string wr w.heap.size k (bigL v k) (bigL_length v k) (hrow.out.congr (fun j hj => by unfold fromEnd; rw [if_pos (by omega)]))
      go_wp2_with fail
      go_ret
      exact ⟨rfl, hb.out⟩

set_option maxHeartbeats 1000000 in
set_option maxRecDepth 100000 in
theorem rputLittle_any (v n : Nat) (w : World) (hn1 : 1 ≤ n) (hn : n ≤ 8) (hv : v < 18446744073709551616) : Calls Tryd.prog 36 #[.int .u64 v, .int .i64 n] w fun e w' => e = .returned (.string (S (litL v n))) ∧ Below w.heap.size w w' := by
  have hmk := run_make_row' (P := Tryd.prog) 40 5 (.int .u8 0) 1 Tryd.underlying40 b_info rfl .i64 .i64 n (by omega) (by omega)
  go_enter Tryd.func36, Tryd.ntmps36
  go_wp2_with fail
  clear hmk
  go_loopw [0, 6] (fun x i wr => ∃ k y : Nat, k ≤ n ∧ i = .int .i64 k ∧ x = .int .u64 y ∧ y < 18446744073709551616 ∧ Hid (y = v / 256 ^ k) ∧ Hid (wr.rowIs w.heap.size 5 n (fromStart (litL v n) k)) ∧ Hid (Below w.heap.size w wr)) (fun _ i _ => n - (intOf i).toNat)
  case atStart => exact ⟨0, v, by omega, rfl, rfl, hv, by simp [Hid], (World.rowIs_made w (.int .u8 0) n _).congr (fun j hj => by simp [fromStart]), (Below.refl _ _).alloc (Nat.le_refl _) _⟩
  case round =>
    obtain ⟨i, y, hk, rfl, rfl, hyl, hy, hrow, hb⟩ := hrel
    by_cases hlt : i < n
    · have hcl : wr.cell? ⟨w.heap.size, i, none⟩ = some (.int .u8 0) := by
        rw [hrow.out.cell (by omega)]
        unfold fromStart
        rw [if_neg (by omega)]
      have hfz := hrow.out.frozen i
      go_wp2_with fail
      go_roundw
      case rel => exact ⟨i + 1, y / 256, by omega, by go_num, by go_num, by omega, by
          show y / 256 = v / 256 ^ (i + 1)
          rw [hy.out, Nat.pow_succ, Nat.div_div_eq_div_mul], (hrow.out.set i _).congr (fun j hj => by
          unfold fromStart
          by_cases hji : j = i
          · rw [if_pos hji, if_pos (by omega), litL_get _ _ _ hj, byte_val, hji, ← hy.out]
          · rw [if_neg hji]
            by_cases h2 : j < i
            · rw [if_pos h2, if_pos (by omega)]
            · rw [if_neg h2, if_neg (by omega)]), hb.out.setCell (Nat.le_refl _) _⟩
      case measure => simp [intOf]; omega
    · obtain rfl : i = n := by omega
      have hcv := row_string wr w.heap.size i (litL v i) (litL_length v i) (hrow.out.congr (fun j hj => by unfold fromStart; rw [if_pos (by omega)]))
      go_wp2_with fail
      go_ret
      exact ⟨rfl, hb.out⟩

set_option maxHeartbeats 1000000 in
theorem rsum_any (s : ByteArray) (w : World) (hs : s.size ≤ 9223372036854775807) : Calls Tryd.prog 37 #[.string s] w fun e w' => e = .returned (.int .u32 (crcL s.data.toList : Nat)) ∧ w = w' := by
  have h := rmore_any 0 s w (by omega) hs
  have H := Lib.hid h
  clear h
  go_enter Tryd.func37, Tryd.ntmps37
  go_wp2_with (go_at_call 47; refine H.out.mono ?_; rintro e w1 ⟨rfl, rfl⟩)
  go_ret
  exact ⟨rfl, rfl⟩

set_option maxHeartbeats 1000000 in
theorem rdigest_any (s : ByteArray) (w : World) (hs : s.size ≤ 9223372036854775807) : Calls Tryd.prog 26 #[.string s] w fun e w' => e = .returned (.string (S (digest s.data.toList))) ∧ Below w.heap.size w w' := by
  have h := rsum_any s w hs
  have hl := crc_lt s.data.toList
  have hp := rputLittle_any (crcL s.data.toList) 4 w (by omega) (by omega) (by omega)
  have e : S (digest s.data.toList) = S (litL (crcL s.data.toList) 4) := rfl
  rw [e]
  generalize crcL s.data.toList = x at *
  have H := Lib.hid h
  have Hp := Lib.hid hp
  clear h hp e
  go_enter Tryd.func26, Tryd.ntmps26
  go_wp2_with (first
    | (go_at_call 37; refine H.out.mono ?_; rintro e w1 ⟨rfl, rfl⟩)
    | (go_at_call 36; refine Hp.out.mono ?_; rintro e w2 ⟨rfl, hb2⟩)
    | fail)
  go_ret
  exact ⟨rfl, hb2⟩
end Go.Proofs.YtgcldacpaommiaaDoor
