/- frames: the digest, the program's and the reference's: the walks. -/
import Derived.Test.YtgcldacpaommiaaDoorFrCrc
import Derived.Lib.SlicesS
namespace Go.Proofs.YtgcldacpaommiaaDoor
open Go.RowKit Go.Deep

set_option maxHeartbeats 1000000 in
theorem sum_any (s : ByteArray) (w : World) (hst : Steps w) (hs : s.size ≤ 9223372036854775807) : Calls Tryd.prog 35 #[.string s] w fun e w' => e = .returned (.int .u32 (crcL s.data.toList : Nat)) ∧ w = w' := by
  have h := more_any 0 s w (by omega) hst hs
  have H := Lib.hid h
  clear h hst
  go_enter Tryd.func35, Tryd.ntmps35
  go_wp2_with (go_at_call 46; refine H.out.mono ?_; rintro e w1 ⟨rfl, rfl⟩)
  go_ret
  exact ⟨rfl, rfl⟩

set_option maxHeartbeats 1000000 in
theorem digest_any (s : ByteArray) (w : World) (hst : Steps w) (hs : s.size ≤ 9223372036854775807) : Calls Tryd.prog 23 #[.string s] w fun e w' => e = .returned (.string (S (digest s.data.toList))) ∧ Below w.heap.size w w' := by
  have h := sum_any s w hst hs
  have hl := crc_lt s.data.toList
  have hp := putLittle_any (crcL s.data.toList) 4 w (by omega) (by omega)
  have e : S (digest s.data.toList) = S (litL (crcL s.data.toList) 4) := rfl
  rw [e]
  generalize crcL s.data.toList = x at *
  have H := Lib.hid h
  have Hp := Lib.hid hp
  clear h hst hp e
  go_enter Tryd.func23, Tryd.ntmps23
  go_wp2_with (first
    | (go_at_call 35; refine H.out.mono ?_; rintro e w1 ⟨rfl, rfl⟩)
    | (go_at_call 34; refine Hp.out.mono ?_; rintro e w2 ⟨rfl, hb2⟩)
    | fail)
  go_ret
  exact ⟨rfl, hb2⟩

def eqB (a b : ByteArray) : Bool := decide (a = b)
theorem eqB_toList (a b : ByteArray) : (a.toList == b.toList) = eqB a b := by
  unfold eqB
  by_cases h : a = b
  · rw [h]; simp
  · rw [decide_eq_false h]; exact (Lib.bytes_beq_false_iff a b).2 h
theorem ret_bool {a b : Bool} (h : a = b) : Ending.returned (.bool a) = .returned (.bool b) := by rw [h]

set_option maxHeartbeats 1000000 in
theorem right_any (s d : ByteArray) (w : World) (hst : Steps w) (hs : s.size ≤ 9223372036854775807) : Calls Tryd.prog 40 #[.string s, .string d] w fun e w' => e = .returned (.bool (eqB d (S (digest s.data.toList)))) ∧ Below w.heap.size w w' := by
  have h := digest_any s w hst hs
  have H := Lib.hid h
  clear h hst
  go_enter Tryd.func40, Tryd.ntmps40
  go_wp2_with (go_at_call 23; refine H.out.mono ?_; rintro e w1 ⟨rfl, hb1⟩)
  go_ret
  exact ⟨ret_bool (eqB_toList _ _), hb1⟩

/-! ### the reference's -/
set_option maxHeartbeats 1000000 in
set_option maxRecDepth 100000 in
theorem rstep_any (x : Nat) (c : UInt8) (w : World) (hx : x < 4294967296) : Calls Tryd.prog 57 #[.int .u32 x, .int .u8 (c.toNat : Int)] w fun e w' => e = .returned (.int .u32 (crcStep x c : Nat)) ∧ w = w' := by
  have hc256 := c.toNat_lt
  have hfin0 : crcStep x c = bits8 (x ^^^ c.toNat) := rfl
  rw [hfin0]
  generalize c.toNat = cn at *
  have a0 : ((cn : Nat) : Int) % 4294967296 = cn := by omega
  obtain ⟨z, hz⟩ : ∃ z, z = x ^^^ cn := ⟨_, rfl⟩
  have hzl : z < 4294967296 := by rw [hz]; exact Nat.xor_lt_two_pow (n := 32) hx (by omega)
  have a1 : bits .xor .u32 (x : Int) (cn : Int) = (z : Int) := by rw [hz]; exact u32_xor_nat _ _ hx (by omega)
  rw [← hz]
  clear hz hfin0
  go_enter Tryd.func57, Tryd.ntmps57
  go_wp2_with fail
  go_loop [0, 5] (fun v i => ∃ k y : Nat, k ≤ 8 ∧ i = .int .i64 k ∧ v = .int .u32 y ∧ y < 4294967296 ∧ Hid (y = Nat.repeat bit1 k z)) (fun _ i => 8 - (intOf i).toNat)
  case atStart => exact ⟨0, z, by omega, rfl, rfl, hzl, rfl⟩
  case round =>
    obtain ⟨k, y, hk, rfl, rfl, hy, hyk⟩ := hrel
    by_cases hlt : k < 8
    · have d1 : decide ((k : Int) < 8) = true := by simp; omega
      have hrep : Nat.repeat bit1 (k + 1) z = bit1 y := by rw [hyk.out]; rfl
      have hbl := bit1_lt hy
      obtain ⟨q, hq⟩ : ∃ q, q = y / 2 := ⟨_, rfl⟩
      have a3 : (y : Int) / 2 = (q : Int) := by omega
      have hql : q < 4294967296 := by omega
      by_cases hodd : y % 2 = 1
      · have b1 : ((y : Int) % 2 == 1) = true := by simp; omega
        obtain ⟨z2, hz2⟩ : ∃ z2, z2 = q ^^^ poly := ⟨_, rfl⟩
        have a4 : bits .xor .u32 (q : Int) 2197175160 = (z2 : Int) := by rw [hz2]; exact u32_xor_nat q poly hql (by unfold poly; omega)
        have hb : z2 = bit1 y := by rw [hz2, hq]; unfold bit1; rw [if_pos hodd]
        rw [← hb] at hrep hbl
        have Hr := Lib.hid hrep
        clear hrep hb hz2 hq hodd
        go_wp2_with fail
        go_round
        case rel => exact ⟨k + 1, z2, by omega, by go_num, rfl, hbl, Hr.out.symm⟩
        case measure => simp [intOf]; omega
      · have b1 : ((y : Int) % 2 == 1) = false := by simp; omega
        have hb : q = bit1 y := by rw [hq]; unfold bit1; rw [if_neg hodd]
        rw [← hb] at hrep hbl
        have Hr := Lib.hid hrep
        clear hrep hb hq hodd
        go_wp2_with fail
        go_round
        case rel => exact ⟨k + 1, q, by omega, by go_num, rfl, hbl, Hr.out.symm⟩
        case measure => simp [intOf]; omega
    · obtain rfl : k = 8 := by omega
      go_wp2_with fail
      go_ret
      exact ⟨by rw [show bits8 z = y from hyk.out.symm]; rfl, rfl⟩

set_option maxHeartbeats 1000000 in
set_option maxRecDepth 100000 in
theorem rmore_any (x : Nat) (s : ByteArray) (w : World) (hx : x < 4294967296) (hs : s.size ≤ 9223372036854775807) : Calls Tryd.prog 47 #[.int .u32 x, .string s] w fun e w' => e = .returned (.int .u32 (crcMore x s.data.toList : Nat)) ∧ w = w' := by
  have e0 := max32 x hx
  obtain ⟨x1, hx1⟩ : ∃ x1, x1 = x ^^^ ones := ⟨_, rfl⟩
  have hx1l : x1 < 4294967296 := by rw [hx1]; exact ones_xor_lt hx
  rw [← hx1] at e0
  have Hx1 := Lib.hid hx1
  clear hx1
  go_enter Tryd.func47, Tryd.ntmps47
  go_wp2_with fail
  go_loop [0, 5] (fun v i => ∃ k y : Nat, k ≤ s.size ∧ i = .int .i64 k ∧ v = .int .u32 y ∧ y < 4294967296 ∧ Hid (y = (s.data.toList.take k).foldl crcStep x1)) (fun _ i => s.size - (intOf i).toNat)
  case atStart => exact ⟨0, x1, by omega, rfl, rfl, hx1l, rfl⟩
  case round =>
    obtain ⟨k, y, hk, rfl, rfl, hy, hyk⟩ := hrel
    by_cases hlt : k < s.size
    · obtain ⟨c, hc, hts⟩ := byte_at s k hlt
      have hcall := rstep_any y c w hy
      have hbl := step_lt hy c
      have hfin : crcStep y c = (s.data.toList.take (k + 1)).foldl crcStep x1 := by
        rw [hts, List.foldl_append, ← hyk.out]
        rfl
      have Hfin := Lib.hid hfin
      have Hc := Lib.hid hcall
      clear hfin hts hcall
      go_wp2_with (go_at_call 57; refine Hc.out.mono ?_; rintro e w1 ⟨rfl, rfl⟩)
      go_round
      case rel => exact ⟨k + 1, crcStep y c, by omega, by go_num, rfl, hbl, Hfin⟩
      case measure => simp [intOf]; omega
    · obtain rfl : k = s.size := by omega
      have e9 := max32 y hy
      go_wp2_with fail
      go_ret
      have hfin : y ^^^ ones = crcMore x s.data.toList := by
        rw [hyk.out, List.take_of_length_le (by rw [data_len]; omega), Hx1.out]
        rfl
      exact ⟨by rw [← hfin]; rfl, rfl⟩
end Go.Proofs.YtgcldacpaommiaaDoor
