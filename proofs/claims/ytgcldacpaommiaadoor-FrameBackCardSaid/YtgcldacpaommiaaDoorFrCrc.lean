/- frames: the sum: the walks. -/
import Derived.Test.YtgcldacpaommiaaDoorFrPad
import Derived.Test.YtgcldacpaommiaaDoorFrSum
namespace Go.Proofs.YtgcldacpaommiaaDoor
open Go.RowKit Go.Deep

/-- the program's own table lies in its place. -/
def Steps (w : World) : Prop := ∀ i, i < 16 → w.cell? ⟨0, i, none⟩ = some (.int .u32 (tab i : Nat))
theorem Steps.below {w w' : World} (h : Steps w) (hb : Below w.heap.size w w') : Steps w' := fun i hi => (hb.cell (World.block_lt_of_cell? w _ (h i hi))).trans (h i hi)

theorem byte_at (s : ByteArray) (k : Nat) (hk : k < s.size) : ∃ c : UInt8, (∀ h : k < s.size, s[k]'h = c) ∧ s.data.toList.take (k + 1) = s.data.toList.take k ++ [c] := by
  refine ⟨s[k], fun _ => rfl, ?_⟩
  rw [List.take_succ_eq_append_getElem (by simpa using hk)]
  rfl
theorem max32 (x : Nat) (hx : x < 4294967296) : bits .xor .u32 IntKind.u32.max (x : Int) = ((x ^^^ ones : Nat) : Int) := by
  have : IntKind.u32.max = ((ones : Nat) : Int) := by decide
  rw [this, u32_xor_nat _ _ (by decide) hx, Nat.xor_comm]

set_option maxHeartbeats 1000000 in
set_option maxRecDepth 100000 in
theorem more_any (x : Nat) (s : ByteArray) (w : World) (hx : x < 4294967296) (hst : Steps w) (hs : s.size ≤ 9223372036854775807) : Calls Tryd.prog 46 #[.int .u32 x, .string s] w fun e w' => e = .returned (.int .u32 (crcMore x s.data.toList : Nat)) ∧ w = w' := by
  have e0 := max32 x hx
  obtain ⟨x1, hx1⟩ : ∃ x1, x1 = x ^^^ ones := ⟨_, rfl⟩
  have hx1l : x1 < 4294967296 := by rw [hx1]; exact ones_xor_lt hx
  rw [← hx1] at e0
  have Hx1 := Lib.hid hx1
  have Hst := Lib.hid hst
  clear hx1 hst
  go_enter Tryd.func46, Tryd.ntmps46
  go_wp2_with fail
  go_loop [0, 10] (fun v i => ∃ k y : Nat, k ≤ s.size ∧ i = .int .i64 k ∧ v = .int .u32 y ∧ y < 4294967296 ∧ Hid (y = (s.data.toList.take k).foldl crcStep x1)) (fun _ i => s.size - (intOf i).toNat)
  case atStart => exact ⟨0, x1, by omega, rfl, rfl, hx1l, rfl⟩
  case round =>
    obtain ⟨k, y, hk, rfl, rfl, hy, hyk⟩ := hrel
    by_cases hlt : k < s.size
    · obtain ⟨c, hc, hts⟩ := byte_at s k hlt
      have hcn : ∀ h : k < s.size, (s[k]'h).toNat = c.toNat := fun h => by rw [hc h]
      have hn3 : nib (nib (y ^^^ c.toNat)) = crcStep y c := step_nib y c
      have hc256 := c.toNat_lt
      obtain ⟨cn, hcne⟩ : ∃ cn, cn = c.toNat := ⟨_, rfl⟩
      rw [← hcne] at hcn hn3 hc256
      have a0 : ((cn : Nat) : Int) % 4294967296 = cn := by omega
      obtain ⟨z1, hz1⟩ : ∃ z, z = y ^^^ cn := ⟨_, rfl⟩
      have hz1l : z1 < 4294967296 := by rw [hz1]; exact Nat.xor_lt_two_pow (n := 32) hy (by omega)
      have a1 : bits .xor .u32 (y : Int) (cn : Int) = (z1 : Int) := by rw [hz1]; exact u32_xor_nat _ _ hy (by omega)
      obtain ⟨i1, hi1⟩ : ∃ i, i = z1 % 16 := ⟨_, rfl⟩
      have hi1l : i1 < 16 := by omega
      have a2 : bits .and .u32 (z1 : Int) 15 = (i1 : Int) := by
        have := u32_and_nat z1 15 hz1l (by omega)
        rw [hi1, show z1 % 16 = z1 &&& 15 from (Nat.and_two_pow_sub_one_eq_mod z1 4).symm]
        exact this
      obtain ⟨t1, ht1⟩ : ∃ t, t = tab i1 := ⟨_, rfl⟩
      have ht1l : t1 < 4294967296 := by rw [ht1]; exact tab_lt _
      have c1 : w.cell? ⟨0, i1, none⟩ = some (.int .u32 t1) := by rw [ht1]; exact Hst.out i1 hi1l
      obtain ⟨q1, hq1⟩ : ∃ q, q = z1 / 16 := ⟨_, rfl⟩
      have a3 : (z1 : Int) / 16 = (q1 : Int) := by omega
      obtain ⟨z2, hz2⟩ : ∃ z, z = q1 ^^^ t1 := ⟨_, rfl⟩
      have hz2n : z2 = nib z1 := by rw [hz2, hq1, ht1, hi1]; rfl
      have hz2l : z2 < 4294967296 := by rw [hz2n]; exact nib_lt hz1l
      have a4 : bits .xor .u32 (q1 : Int) (t1 : Int) = (z2 : Int) := by rw [hz2]; exact u32_xor_nat _ _ (by omega) ht1l
      obtain ⟨i2, hi2⟩ : ∃ i, i = z2 % 16 := ⟨_, rfl⟩
      have hi2l : i2 < 16 := by omega
      have a5 : bits .and .u32 (z2 : Int) 15 = (i2 : Int) := by
        have := u32_and_nat z2 15 hz2l (by omega)
        rw [hi2, show z2 % 16 = z2 &&& 15 from (Nat.and_two_pow_sub_one_eq_mod z2 4).symm]
        exact this
      obtain ⟨t2, ht2⟩ : ∃ t, t = tab i2 := ⟨_, rfl⟩
      have ht2l : t2 < 4294967296 := by rw [ht2]; exact tab_lt _
      have c2 : w.cell? ⟨0, i2, none⟩ = some (.int .u32 t2) := by rw [ht2]; exact Hst.out i2 hi2l
      obtain ⟨q2, hq2⟩ : ∃ q, q = z2 / 16 := ⟨_, rfl⟩
      have a6 : (z2 : Int) / 16 = (q2 : Int) := by omega
      obtain ⟨z3, hz3⟩ : ∃ z, z = q2 ^^^ t2 := ⟨_, rfl⟩
      have hz3n : z3 = nib z2 := by rw [hz3, hq2, ht2, hi2]; rfl
      have hz3l : z3 < 4294967296 := by rw [hz3n]; exact nib_lt hz2l
      have a7 : bits .xor .u32 (q2 : Int) (t2 : Int) = (z3 : Int) := by rw [hz3]; exact u32_xor_nat _ _ (by omega) ht2l
      have hfin : z3 = (s.data.toList.take (k + 1)).foldl crcStep x1 := by
        rw [hts, List.foldl_append, ← hyk.out, hz3n, hz2n, hz1]
        exact hn3
      have Hfin := Lib.hid hfin
      have j1 : (0 : Int) ≤ (i1 : Int) := by omega
      have j2 : (i1 : Int) < 16 := by omega
      have j3 : (0 : Int) ≤ (i2 : Int) := by omega
      have j4 : (i2 : Int) < 16 := by omega
      clear hfin hz3n hz3 hq2 ht2 hi2 hz2n hz2 hq1 ht1 hi1 hz1 hcne hn3 hts hc
      go_wp2_with fail
      go_round
      case rel => exact ⟨k + 1, z3, by omega, by go_num, rfl, hz3l, Hfin⟩
      case measure => simp [intOf]; omega
    · obtain rfl : k = s.size := by omega
      have e9 := max32 y hy
      go_wp2_with fail
      go_ret
      have hfin : y ^^^ ones = crcMore x s.data.toList := by
        rw [hyk.out, List.take_of_length_le (by rw [data_len]; omega), Hx1.out]
        rfl
      exact ⟨by rw [← hfin]; rfl, rfl⟩
end Go.Proofs.YtgcldacpaommiaaDoor
