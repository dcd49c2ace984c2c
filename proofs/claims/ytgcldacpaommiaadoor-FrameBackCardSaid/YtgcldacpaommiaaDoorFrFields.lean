/- fields: numbers in bytes: the walks. -/
import Derived.Test.YtgcldacpaommiaaDoorProg
import Derived.Test.YtgcldacpaommiaaDoorFrPlain
import Derived.WalkKit
import Derived.WalkLawsBesides
import Derived.WalkSpells
import Derived.Deep.OwnRows
import Derived.Deep.QuietTactic
import Derived.BigQuiet
import Derived.Lib.Hide
import Derived.Laws.BytesArg
import Derived.Maps.AppendAt
import Derived.Outline
import Derived.KernelRfl
namespace Go.Proofs.YtgcldacpaommiaaDoor
open Go.RowKit Go.Deep

theorem i_info : (Tryd.prog.info? 3).map (fun i => (i.zero, i.size, i.bytes)) = some (some (.int .i64 0), 1, 8) := by kernel_rfl
theorem b_info : (Tryd.prog.info? 5).map (fun i => (i.zero, i.size, i.bytes)) = some (some (.int .u8 0), 1, 1) := by kernel_rfl

def shiftOf (n : Nat) (big : Bool) (i : Nat) : Nat := if big then 8 * (n - 1 - i) else 8 * i
def shiftV (n : Nat) (big : Bool) (k : Nat) : List Value := (List.range k).map fun i => .int .i64 (shiftOf n big i)
theorem shiftV_succ (n : Nat) (big : Bool) (k : Nat) : shiftV n big (k + 1) = shiftV n big k ++ [.int .i64 (shiftOf n big k)] := by simp [shiftV, List.range_succ]

set_option maxHeartbeats 1000000 in
set_option maxRecDepth 100000 in
theorem shifts_any (n : Nat) (big : Bool) (w : World) (hn : n ≤ 8) : Calls Tryd.prog 45 #[.int .i64 n, .bool big] w fun e w' => ∃ v, e = .returned v ∧ w'.ownsRow w.heap.size 3 1 v n (shiftV n big n) ∧ Below w.heap.size w w' := by
  obtain ⟨i0, hi, hz0, hz1, hz2⟩ := info_parts i_info
  go_enter Tryd.func45, Tryd.ntmps45
  go_wp2
  go_loopw [5, 8] (fun v i wr => ∃ k : Nat, k ≤ n ∧ i = .int .i64 k ∧ wr.ownsRow w.heap.size 3 1 v k (shiftV n big k) ∧ Below w.heap.size w wr) (fun _ i _ => n - (intOf i).toNat)
  case atStart => exact ⟨0, by omega, rfl, World.ownsRow_nil _ _ _ _, Below.refl _ _⟩
  case round =>
    obtain ⟨k, hk, rfl, hown, hb⟩ := hrel
    by_cases hlt : k < n
    · have hs := hb.size
      have hs0 : k + 1 ≤ maxLen := by unfold maxLen; omega
      have hs1 : (k + 1) * 8 ≤ 140737488355328 := by omega
      cases big
      · go_wp2_with (at_builtin; refine wpList_append_own _ rfl (.tmp 20) (.tmp 23) 83 rfl w.heap.size 3 i0 (.int .i64 0) 1 8 Tryd.underlying83 hi hz0 hz1 hz2 rfl (by decide) _ k (shiftV n false k) rfl (hown.alloc _) ⟨wr.heap.size, 0, none⟩ 1 1 [.int .i64 (8 * (k : Int))] rfl rfl (cell_one_new _ _ _) (by simp [Value.oneCell']) hs0 hs1 (by simp; omega) ?_; intro v' w1 hown1 hgrow1 _)
        have hb1 := (hb.alloc hs _).grown hgrow1 (by simp; omega) (fun j hj => ((hown.lt j hj).1))
        go_roundw
        case rel => exact ⟨k + 1, by omega, by go_num, by rw [shiftV_succ]; exact hown1, hb1⟩
        case measure => simp [intOf]; omega
      · go_wp2_with (at_builtin; refine wpList_append_own _ rfl (.tmp 12) (.tmp 18) 83 rfl w.heap.size 3 i0 (.int .i64 0) 1 8 Tryd.underlying83 hi hz0 hz1 hz2 rfl (by decide) _ k (shiftV n true k) rfl (hown.alloc _) ⟨wr.heap.size, 0, none⟩ 1 1 [.int .i64 (8 * ((n : Int) - 1 - k))] rfl rfl (cell_one_new _ _ _) (by simp [Value.oneCell']) hs0 hs1 (by simp; omega) ?_; intro v' w1 hown1 hgrow1 _)
        have hb1 := (hb.alloc hs _).grown hgrow1 (by simp; omega) (fun j hj => ((hown.lt j hj).1))
        have e : 8 * ((n : Int) - 1 - k) = ((shiftOf n true k : Nat) : Int) := by simp [shiftOf]; omega
        rw [e] at hown1
        go_roundw
        case rel => exact ⟨k + 1, by omega, by go_num, by rw [shiftV_succ]; exact hown1, hb1⟩
        case measure => simp [intOf]; omega
    · obtain rfl : k = n := by omega
      go_wp2_with fail
      go_ret
      exact ⟨_, rfl, hown, hb⟩

theorem own_some {w : World} {B : Nat} {e : TypeId} {v : Value} {n : Nat} {xs : List Value} (h : w.ownsRow B e 1 v n xs) (hn : 1 ≤ n) : ∃ g cap, v = .slice (some ⟨g, 0, none⟩) n cap ∧ B ≤ g ∧ g < w.heap.size ∧ n ≤ cap ∧ ∀ i u, xs[i]? = some u → w.cell? ⟨g, i, none⟩ = some u := by
  have hc := fun g => h.cells (g := g)
  obtain ⟨_, ⟨_, h1⟩ | ⟨g, cap, cur, rfl, h2, h3, h4, _⟩⟩ := h
  · omega
  · refine ⟨g, cap, rfl, h2, (Array.getElem?_eq_some_iff.1 h3).1, h4, fun i u hu => ?_⟩
    have := hc g rfl i u hu
    have ha : (⟨g, 0, none⟩ : Addr).add i = ⟨g, i, none⟩ := by unfold Addr.add; split <;> simp_all
    rwa [ha] at this

/-- bytes as cells. -/
def bytesV (l : List UInt8) : List Value := l.map fun c => .int .u8 (c.toNat : Int)
theorem bytesV_length (l : List UInt8) : (bytesV l).length = l.length := by simp [bytesV]
theorem bytesV_at (l : List UInt8) (i : Nat) (h : i < l.length) : (bytesV l)[i]? = some (.int .u8 ((l.getD i 0).toNat : Int)) := by
  simp [bytesV, h]
theorem bytesV_snoc (l : List UInt8) (c : UInt8) : bytesV (l ++ [c]) = bytesV l ++ [.int .u8 (c.toNat : Int)] := by simp [bytesV]
theorem str_bytes (l : List UInt8) : strOfNums (l.map fun c => (c.toNat : Int)) = S l := by
  unfold strOfNums S
  congr 1
  rw [List.map_map]
  congr 1
  conv => rhs; rw [← List.map_id l]
  apply List.map_congr_left
  intro c _
  simp
theorem own_bytes {w : World} {B : Nat} {e' : TypeId} {v : Value} {n : Nat} {l : List UInt8} (h : w.ownsRow B e' 1 v n (bytesV l)) : (convert 40 9 v).run Tryd.prog w = .ok (.string (S l)) w := by
  have hl : l.length = n := by have := h.1; simp [bytesV] at this; exact this
  rcases Nat.eq_zero_or_pos n with h0 | h0
  · obtain rfl : l = [] := List.eq_nil_of_length_eq_zero (by omega)
    rcases h.2 with ⟨rfl, _⟩ | ⟨g, cap, cur, rfl, _⟩
    · exact run_convert_bytes_nil w 40 5 Tryd.underlying40 Tryd.underlying5 0 0 9 Tryd.underlying9
    · have := run_convert_bytes_arg w 40 5 Tryd.underlying40 Tryd.underlying5 g 0 n cap [] (by simp; omega) (fun i hi => by omega) 9 Tryd.underlying9
      exact this
  · obtain ⟨g, cap, rfl, _, _, _, hc⟩ := own_some h h0
    have := run_convert_bytes_arg w 40 5 Tryd.underlying40 Tryd.underlying5 g 0 n cap (l.map fun c => (c.toNat : Int)) (by simp; omega) (fun i hi => by
      have h1 := hc i _ (bytesV_at l i (by omega))
      rw [Nat.zero_add, h1]
      simp [List.getD_eq_getElem?_getD, List.getElem?_eq_getElem (show i < l.length by omega)]) 9 Tryd.underlying9
    rw [str_bytes] at this
    exact this

def putL (v n : Nat) (big : Bool) (k : Nat) : List UInt8 := (List.range k).map fun i => UInt8.ofNat (v / 2 ^ (shiftOf n big i) % 256)
theorem putL_succ (v n : Nat) (big : Bool) (k : Nat) : putL v n big (k + 1) = putL v n big k ++ [UInt8.ofNat (v / 2 ^ (shiftOf n big k) % 256)] := by simp [putL, List.range_succ]
theorem byte_val (x : Nat) : ((UInt8.ofNat (x % 256)).toNat : Int) = (x : Int) % 256 := by
  rw [UInt8.toNat_ofNat']
  simp
theorem pow_shift (i : Nat) : 2 ^ (8 * i) = 256 ^ i := by rw [Nat.pow_mul]
theorem putL_big (v n : Nat) : putL v n true n = bigL v n := by
  unfold putL bigL shiftOf
  apply List.map_congr_left
  intro i _
  simp only [if_true, pow_shift]
theorem putL_lit (v n : Nat) : putL v n false n = litL v n := by
  unfold putL litL shiftOf
  apply List.map_congr_left
  intro i _
  simp only [Bool.false_eq_true, if_false, pow_shift]
theorem shiftV_at (n : Nat) (big : Bool) (k : Nat) (hk : k < n) : (shiftV n big n)[k]? = some (.int .i64 (shiftOf n big k)) := by simp [shiftV, hk]
theorem shiftOf_lt (n : Nat) (big : Bool) (k : Nat) (hn : n ≤ 8) (hk : k < n) : shiftOf n big k < 64 := by unfold shiftOf; split <;> omega

theorem shifts_row (n : Nat) (big : Bool) (w : World) (hn1 : 1 ≤ n) (hn : n ≤ 8) : Calls Tryd.prog 45 #[.int .i64 n, .bool big] w fun e w' => ∃ g cap, e = .returned (.slice (some ⟨g, 0, none⟩) n cap) ∧ g < w'.heap.size ∧ n ≤ cap ∧ Hid (∀ i u, (shiftV n big n)[i]? = some u → w'.cell? ⟨g, i, none⟩ = some u) ∧ Below w.heap.size w w' := by
  refine (shifts_any n big w hn).mono ?_
  rintro e w' ⟨v, rfl, hv, hb⟩
  obtain ⟨g, cap, rfl, _, hg2, hcap, hcell⟩ := own_some hv hn1
  exact ⟨g, cap, rfl, hg2, hcap, hcell, hb⟩

set_option maxHeartbeats 1000000 in
set_option maxRecDepth 100000 in
theorem put_any (v n : Nat) (big : Bool) (w : World) (hn1 : 1 ≤ n) (hn : n ≤ 8) : Calls Tryd.prog 33 #[.int .u64 v, .int .i64 n, .bool big] w fun e w' => e = .returned (.string (S (putL v n big n))) ∧ Below w.heap.size w w' := by
  obtain ⟨i0, hi, hz0, hz1, hz2⟩ := info_parts b_info
  have hsh := shifts_row n big w hn1 hn
  have Hs := Lib.hid hsh
  clear hsh
  have hnn : n ≤ 9223372036854775807 := by omega
  go_enter Tryd.func33, Tryd.ntmps33
  go_wp2_with (go_at_call 45; refine Hs.out.mono ?_; rintro e w1 ⟨g, cap, rfl, hg2, hcap, Hc, hb1⟩)
  go_loopw [7, 20] (fun b i wr => ∃ k : Nat, k ≤ n ∧ i = .int .i64 k ∧ wr.ownsRow w1.heap.size 5 1 b k (bytesV (putL v n big k)) ∧ Below w1.heap.size w1 wr) (fun _ i _ => n - (intOf i).toNat)
  case atStart => exact ⟨0, by omega, rfl, World.ownsRow_nil _ _ _ _, Below.refl _ _⟩
  case round =>
    obtain ⟨k, hk, rfl, hown, hb⟩ := hrel
    have hs := hb.size
    by_cases hlt : k < n
    · have hs0 : k + 1 ≤ maxLen := by unfold maxLen; omega
      have hs1 : (k + 1) * 1 ≤ 140737488355328 := by omega
      have hcl : wr.cell? ⟨g, k, none⟩ = some (.int .i64 (shiftOf n big k)) := (hb.cell hg2).trans (Hc.out k _ (shiftV_at n big k hlt))
      have hsl := shiftOf_lt n big k hn hlt
      obtain ⟨s, hse⟩ : ∃ s, s = shiftOf n big k := ⟨_, rfl⟩
      rw [← hse] at hcl hsl
      have Hse := Lib.hid hse
      clear hse
      go_wp2_with (at_builtin; refine wpList_append_own _ rfl (.tmp 24) (.tmp 29) 40 rfl w1.heap.size 5 i0 (.int .u8 0) 1 1 Tryd.underlying40 hi hz0 hz1 hz2 rfl (by decide) _ k (bytesV (putL v n big k)) rfl (hown.alloc _) ⟨wr.heap.size, 0, none⟩ 1 1 [.int .u8 ((v : Int) / 2 ^ s % 256)] rfl rfl (cell_one_new _ _ _) (by simp [Value.oneCell']) hs0 hs1 (by simp; omega) ?_; intro v' w2 hown1 hgrow1 _)
      have hb2 := (hb.alloc hs _).grown hgrow1 (by simp; omega) (fun j hj => ((hown.lt j hj).1))
      go_roundw
      case rel => exact ⟨k + 1, by omega, by go_num, by
        rw [putL_succ, bytesV_snoc, byte_val, ← Hse.out]
        simpa using hown1, hb2⟩
      case measure => simp [intOf]; omega
    · obtain rfl : k = n := by omega
      have hcv := own_bytes hown
      go_wp2_with fail
      go_ret
      exact ⟨rfl, hb1.trans (hb.mono hb1.size)⟩

set_option maxHeartbeats 1000000 in
theorem putBig_any (v n : Nat) (w : World) (hn1 : 1 ≤ n) (hn : n ≤ 8) : Calls Tryd.prog 21 #[.int .u64 v, .int .i64 n] w fun e w' => e = .returned (.string (S (bigL v n))) ∧ Below w.heap.size w w' := by
  have h := put_any v n true w hn1 hn
  rw [putL_big] at h
  have H := Lib.hid h
  clear h
  go_enter Tryd.func21, Tryd.ntmps21
  go_wp2_with (go_at_call 33; refine H.out.mono ?_; rintro e w1 ⟨rfl, hb1⟩)
  go_ret
  exact ⟨rfl, hb1⟩
set_option maxHeartbeats 1000000 in
theorem putLittle_any (v n : Nat) (w : World) (hn1 : 1 ≤ n) (hn : n ≤ 8) : Calls Tryd.prog 34 #[.int .u64 v, .int .i64 n] w fun e w' => e = .returned (.string (S (litL v n))) ∧ Below w.heap.size w w' := by
  have h := put_any v n false w hn1 hn
  rw [putL_lit] at h
  have H := Lib.hid h
  clear h
  go_enter Tryd.func34, Tryd.ntmps34
  go_wp2_with (go_at_call 33; refine H.out.mono ?_; rintro e w1 ⟨rfl, hb1⟩)
  go_ret
  exact ⟨rfl, hb1⟩
end Go.Proofs.YtgcldacpaommiaaDoor
