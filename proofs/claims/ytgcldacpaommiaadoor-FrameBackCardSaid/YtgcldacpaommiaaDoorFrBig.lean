/- frames: Big, the program's and the reference's: the walks. -/
import Derived.Test.YtgcldacpaommiaaDoorFrPut
namespace Go.Proofs.YtgcldacpaommiaaDoor
open Go.RowKit Go.Deep

/-- n bytes from place a on. -/
def sub (s : ByteArray) (a n : Nat) : List UInt8 := (s.data.toList.drop a).take n
theorem sub_zero (s : ByteArray) (a : Nat) : sub s a 0 = [] := rfl
theorem sub_length (s : ByteArray) (a n : Nat) (h : a + n ≤ s.size) : (sub s a n).length = n := by unfold sub; rw [List.length_take, List.length_drop, data_len]; omega
theorem byte_sub (s : ByteArray) (a k : Nat) (hk : a + k < s.size) : ∃ c : UInt8, (∀ h : a + k < s.size, s[a + k]'h = c) ∧ sub s a (k + 1) = sub s a k ++ [c] := by
  refine ⟨s[a + k], fun _ => rfl, ?_⟩
  unfold sub
  rw [List.take_succ_eq_append_getElem (by rw [List.length_drop, data_len]; omega)]
  congr 2
  rw [List.getElem_drop]
  rfl
theorem bigN_snoc (l : List UInt8) (c : UInt8) : bigN (l ++ [c]) = 256 * bigN l + c.toNat := by simp [bigN]
theorem bigN_lt_rev (l : List UInt8) : bigN l.reverse < 256 ^ l.length := by
  induction l with
  | nil => simp [bigN]
  | cons c l ih =>
    rw [List.reverse_cons, bigN_snoc, List.length_cons, Nat.pow_succ]
    have := c.toNat_lt
    omega
theorem bigN_lt (l : List UInt8) : bigN l < 256 ^ l.length := by have := bigN_lt_rev l.reverse; simpa using this
theorem bigN_lt64 (l : List UInt8) (h : l.length ≤ 8) : bigN l < 18446744073709551616 := by
  have h1 := bigN_lt l
  have h2 := Nat.pow_le_pow_right (show 0 < 256 by omega) h
  have h3 : 256 ^ 8 = 18446744073709551616 := by decide
  omega

theorem ret_big {a b : Nat} {c : Bool} (h : a = b) : Ending.returned (.tuple #[.int .u64 (a : Int), .bool c]) = .returned (.tuple #[.int .u64 (b : Int), .bool c]) := by rw [h]

set_option maxHeartbeats 1000000 in
set_option maxRecDepth 100000 in
theorem there_any (s : ByteArray) (a n : Nat) (w : World) (hs : s.size ≤ 1000000) (ha : a ≤ 1000000) (hn : n ≤ 1000000) : Calls Tryd.prog 42 #[.string s, .int .i64 a, .int .i64 n] w fun e w' => e = .returned (.bool (decide (a + n ≤ s.size))) ∧ w = w' := by
  by_cases h1 : a + n ≤ s.size
  · rw [decide_eq_true h1]
    have d1 : a ≤ s.size := by omega
    have d2 : (n : Int) ≤ (s.size : Int) - a := by omega
    clear h1
    go_enter Tryd.func42, Tryd.ntmps42
    go_wp2_with fail
    go_ret
    exact ⟨rfl, rfl⟩
  · rw [decide_eq_false h1]
    by_cases d1 : a ≤ s.size
    · have d2 : ¬ ((n : Int) ≤ (s.size : Int) - a) := by omega
      clear h1
      go_enter Tryd.func42, Tryd.ntmps42
      go_wp2_with fail
      go_ret
      exact ⟨rfl, rfl⟩
    · clear h1
      go_enter Tryd.func42, Tryd.ntmps42
      go_wp2_with fail
      go_ret
      exact ⟨rfl, rfl⟩

set_option maxHeartbeats 1000000 in
set_option maxRecDepth 100000 in
theorem rbig_no (s : ByteArray) (a n : Nat) (w : World) (hs : s.size ≤ 1000000) (ha : a ≤ 1000000) (hn1 : 1 ≤ n) (hn : n ≤ 8) (h : s.size < a + n) : Calls Tryd.prog 29 #[.string s, .int .i64 a, .int .i64 n] w fun e w' => e = .returned (.tuple #[.int .u64 0, .bool false]) ∧ w = w' := by
  have ht := there_any s a n w hs ha (by omega)
  rw [decide_eq_false (by omega)] at ht
  have Ht := Lib.hid ht
  clear ht h
  go_enter Tryd.func29, Tryd.ntmps29
  go_wp2_with (go_at_call 42; refine Ht.out.mono ?_; rintro e w1 ⟨rfl, rfl⟩)
  go_ret2
  exact ⟨rfl, rfl⟩
set_option maxHeartbeats 1000000 in
set_option maxRecDepth 100000 in
theorem rbig_any (s : ByteArray) (a n : Nat) (w : World) (hs : s.size ≤ 1000000) (hn1 : 1 ≤ n) (hn : n ≤ 8) (h : a + n ≤ s.size) : Calls Tryd.prog 29 #[.string s, .int .i64 a, .int .i64 n] w fun e w' => e = .returned (.tuple #[.int .u64 (bigN (sub s a n) : Nat), .bool true]) ∧ w = w' := by
  have ht := there_any s a n w hs (by omega) (by omega)
  rw [decide_eq_true h] at ht
  have Ht := Lib.hid ht
  have H := Lib.hid h
  have hab : a ≤ 1000000 := by omega
  clear ht h
  go_enter Tryd.func29, Tryd.ntmps29
  go_wp2_with (go_at_call 42; refine Ht.out.mono ?_; rintro e w1 ⟨rfl, rfl⟩)
  go_loop [8, 9] (fun v i => ∃ k y : Nat, k ≤ n ∧ i = .int .i64 k ∧ v = .int .u64 y ∧ Hid (y = bigN (sub s a k))) (fun _ i => n - (intOf i).toNat)
  case atStart => exact ⟨0, 0, by omega, rfl, rfl, rfl⟩
  case round =>
    obtain ⟨k, y, hk, rfl, rfl, hy⟩ := hrel
    by_cases hlt : k < n
    · have hin : a + k < s.size := by have := H.out; omega
      obtain ⟨c, hc, hts⟩ := byte_sub s a k hin
      have hcn : ∀ h : a + k < s.size, (s[a + k]'h).toNat = c.toNat := fun h => by rw [hc h]
      have hc256 := c.toNat_lt
      obtain ⟨cn, hcne⟩ : ∃ cn, cn = c.toNat := ⟨_, rfl⟩
      rw [← hcne] at hcn hc256
      have hnew : 256 * y + cn = bigN (sub s a (k + 1)) := by rw [hts, bigN_snoc, hy.out, hcne]
      have hlt64 : 256 * y + cn < 18446744073709551616 := by rw [hnew]; exact bigN_lt64 _ (by rw [sub_length _ _ _ (by omega)]; omega)
      have Hnew := Lib.hid hnew
      clear hnew hcne hts hc hy
      go_wp2_with fail
      go_round
      case rel => exact ⟨k + 1, 256 * y + cn, by omega, by go_num, by go_num, Hnew⟩
      case measure => simp [intOf]; omega
    · obtain rfl : k = n := by omega
      go_wp2_with fail
      go_ret2
      exact ⟨ret_big hy.out, rfl⟩

theorem shl_byte (c q : Nat) (hc : c < 256) : c * 2 ^ q < 2 ^ (q + 8) := by
  rw [Nat.pow_add, Nat.mul_comm]
  exact Nat.mul_lt_mul_of_pos_left (by omega) (Nat.two_pow_pos q)
theorem or_byte (m c q : Nat) (hc : c < 256) : (m * 2 ^ (q + 8)) ||| (c * 2 ^ q) = m * 2 ^ (q + 8) + c * 2 ^ q := by
  rw [Nat.mul_comm m]
  refine (Nat.two_pow_add_eq_or_of_lt ?_ m).symm
  rw [Nat.pow_add, Nat.mul_comm]
  exact Nat.mul_lt_mul_of_pos_left (by omega) (Nat.two_pow_pos q)

set_option maxHeartbeats 1000000 in
set_option maxRecDepth 100000 in
theorem get_no (s : ByteArray) (a n : Nat) (w : World) (hs : s.size ≤ 1000000) (ha : a ≤ 1000000) (hn1 : 1 ≤ n) (hn : n ≤ 8) (h : s.size < a + n) : Calls Tryd.prog 44 #[.string s, .int .i64 a, .int .i64 n, .bool true] w fun e w' => e = .returned (.tuple #[.int .u64 0, .bool false]) ∧ w = w' := by
  have d1 : ¬ ((a : Int) ≤ (s.size : Int) - n) := by omega
  clear h
  go_enter Tryd.func44, Tryd.ntmps44
  go_wp2_with fail
  go_ret2
  exact ⟨rfl, rfl⟩
set_option maxHeartbeats 1000000 in
set_option maxRecDepth 100000 in
theorem get_any (s : ByteArray) (a n : Nat) (w : World) (hs : s.size ≤ 1000000) (hn1 : 1 ≤ n) (hn : n ≤ 8) (h : a + n ≤ s.size) : Calls Tryd.prog 44 #[.string s, .int .i64 a, .int .i64 n, .bool true] w fun e w' => e = .returned (.tuple #[.int .u64 (bigN (sub s a n) : Nat), .bool true]) ∧ Below w.heap.size w w' := by
  have hsh := shifts_row n true w hn1 hn
  have Hs := Lib.hid hsh
  have H := Lib.hid h
  have hab : a ≤ 1000000 := by omega
  have d1 : (a : Int) ≤ (s.size : Int) - n := by omega
  clear hsh h
  go_enter Tryd.func44, Tryd.ntmps44
  go_wp2_with (go_at_call 45; refine Hs.out.mono ?_; rintro e w1 ⟨g, cap, rfl, hg2, hcap, Hc, hb1⟩)
  go_loop [10, 35] (fun v i => ∃ k y : Nat, k ≤ n ∧ i = .int .i64 k ∧ v = .int .u64 y ∧ y < 18446744073709551616 ∧ Hid (y = bigN (sub s a k) * 2 ^ (8 * (n - k)))) (fun _ i => n - (intOf i).toNat)
  case atStart => exact ⟨0, 0, by omega, rfl, rfl, by omega, by simp [Hid, sub_zero, bigN]⟩
  case round =>
    obtain ⟨k, y, hk, rfl, rfl, hyl, hy⟩ := hrel
    by_cases hlt : k < n
    · have hin : a + k < s.size := by have := H.out; omega
      obtain ⟨c, hc, hts⟩ := byte_sub s a k hin
      have hcn : ∀ h : a + k < s.size, (s[a + k]'h).toNat = c.toNat := fun h => by rw [hc h]
      have hc256 := c.toNat_lt
      obtain ⟨cn, hcne⟩ : ∃ cn, cn = c.toNat := ⟨_, rfl⟩
      rw [← hcne] at hcn hc256
      have hcl : w1.cell? ⟨g, k, none⟩ = some (.int .i64 (shiftOf n true k)) := Hc.out k _ (shiftV_at n true k hlt)
      have hsl := shiftOf_lt n true k hn hlt
      obtain ⟨q, hq⟩ : ∃ q, q = shiftOf n true k := ⟨_, rfl⟩
      have hq8 : q + 8 = 8 * (n - k) := by rw [hq]; unfold shiftOf; simp; omega
      rw [← hq] at hcl hsl
      obtain ⟨z, hz⟩ : ∃ z, z = cn * 2 ^ q := ⟨_, rfl⟩
      have hzl : z < 2 ^ (q + 8) := by rw [hz]; exact shl_byte cn q hc256
      have hzl64 : z < 18446744073709551616 := Nat.lt_of_lt_of_le hzl (by have := Nat.pow_le_pow_right (show 0 < 2 by omega) (show q + 8 ≤ 64 by omega); exact this)
      have e1 : (cn : Int) * 2 ^ q = (z : Int) := by rw [hz]; simp
      have e2 : y ||| z = y + z := by rw [hy.out, hz, ← hq8]; exact or_byte _ _ _ hc256
      have hnew : y + z = bigN (sub s a (k + 1)) * 2 ^ (8 * (n - (k + 1))) := by
        rw [hts, bigN_snoc, hy.out, hz, ← hcne, show 8 * (n - (k + 1)) = q by omega, ← hq8, Nat.pow_add, Nat.add_mul]
        congr 1
        rw [Nat.mul_comm (2 ^ q), ← Nat.mul_assoc, Nat.mul_comm (bigN _)]
      have hnl : y + z < 18446744073709551616 := by
        have hb := bigN_lt (sub s a (k + 1))
        rw [sub_length _ _ _ (by omega)] at hb
        rw [hnew]
        have h256 : 256 ^ (k + 1) = 2 ^ (8 * (k + 1)) := (pow_shift _).symm
        rw [h256] at hb
        have h1 : bigN (sub s a (k + 1)) * 2 ^ (8 * (n - (k + 1))) < 2 ^ (8 * (k + 1)) * 2 ^ (8 * (n - (k + 1))) := Nat.mul_lt_mul_of_pos_right hb (Nat.two_pow_pos _)
        rw [← Nat.pow_add] at h1
        have h2 := Nat.pow_le_pow_right (show 0 < 2 by omega) (show 8 * (k + 1) + 8 * (n - (k + 1)) ≤ 64 by omega)
        have h3 : 2 ^ 64 = 18446744073709551616 := by decide
        omega
      have e3 : bits .or .u64 (y : Int) (z : Int) = ((y + z : Nat) : Int) := by rw [u64_or_nat _ _ hyl hzl64, e2]
      obtain ⟨y2, hy2⟩ : ∃ y2, y2 = y + z := ⟨_, rfl⟩
      rw [← hy2] at e3 hnew hnl
      have Hnew := Lib.hid hnew
      have Hq := Lib.hid hq
      clear hnew hcne hts hc hy hzl hz e2 hy2 hq hq8
      go_wp2_with fail
      go_round
      case rel => exact ⟨k + 1, y2, by omega, by go_num, by go_num, hnl, Hnew⟩
      case measure => simp [intOf]; omega
    · obtain rfl : k = n := by omega
      go_wp2_with fail
      go_ret2
      exact ⟨ret_big (by rw [hy.out]; simp), hb1⟩

set_option maxHeartbeats 1000000 in
set_option maxRecDepth 100000 in
theorem big_no (s : ByteArray) (a n : Nat) (w : World) (hs : s.size ≤ 1000000) (ha : a ≤ 1000000) (hn1 : 1 ≤ n) (hn : n ≤ 8) (h : s.size < a + n) : Calls Tryd.prog 32 #[.string s, .int .i64 a, .int .i64 n] w fun e w' => e = .returned (.tuple #[.int .u64 0, .bool false]) ∧ w = w' := by
  have H := Lib.hid (get_no s a n w hs ha hn1 hn h)
  clear h
  go_enter Tryd.func32, Tryd.ntmps32
  go_wp2_with (go_at_call 44; refine H.out.mono ?_; rintro e w1 ⟨rfl, rfl⟩)
  go_ret2
  exact ⟨rfl, rfl⟩
set_option maxHeartbeats 1000000 in
set_option maxRecDepth 100000 in
theorem big_any (s : ByteArray) (a n : Nat) (w : World) (hs : s.size ≤ 1000000) (hn1 : 1 ≤ n) (hn : n ≤ 8) (h : a + n ≤ s.size) : Calls Tryd.prog 32 #[.string s, .int .i64 a, .int .i64 n] w fun e w' => e = .returned (.tuple #[.int .u64 (bigN (sub s a n) : Nat), .bool true]) ∧ Below w.heap.size w w' := by
  have H := Lib.hid (get_any s a n w hs hn1 hn h)
  generalize bigN (sub s a n) = x at *
  clear h
  go_enter Tryd.func32, Tryd.ntmps32
  go_wp2_with (go_at_call 44; refine H.out.mono ?_; rintro e w1 ⟨rfl, hb1⟩)
  go_ret2
  exact ⟨rfl, hb1⟩
end Go.Proofs.YtgcldacpaommiaaDoor
