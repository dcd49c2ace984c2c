/- frames: FrameStacks: frames one behind the other: the plain list, and the walk. -/
import Derived.Test.YtgcldacpaommiaaDoorFrPutsLaw
import Derived.Test.YtgcldacpaommiaaDoorFrMem
namespace Go.Proofs.YtgcldacpaommiaaDoor
open Go.RowKit Go.Deep

/-- the number of frame i. -/
def numAt (n i : Nat) : Nat := (n + i) % 18446744073709551616
theorem numAt_lt (n i : Nat) : numAt n i < 18446744073709551616 := Nat.mod_lt _ (by omega)
theorem wrap_num (n i : Nat) : IntKind.u64.wrap ((n : Int) + (i : Int)) = (numAt n i : Nat) := by
  unfold numAt
  simp only [IntKind.wrap, IntKind.signed, IntKind.bits]
  simp
/-- m frames, from frame i on. -/
def stackL (n : Nat) (T : Nat → ByteArray) : Nat → Nat → List UInt8
  | _, 0 => []
  | i, m + 1 => frameL (numAt n i) (T i).data.toList ++ stackL n T (i + 1) m
theorem stackL_snoc (n : Nat) (T : Nat → ByteArray) (m : Nat) : ∀ i, stackL n T i (m + 1) = stackL n T i m ++ frameL (numAt n (i + m)) (T (i + m)).data.toList := by
  induction m with
  | zero => intro i; simp [stackL]
  | succ m ih =>
    intro i
    rw [stackL, ih (i + 1), stackL, List.append_assoc, show i + 1 + m = i + (m + 1) by omega]
theorem stackL_length (n : Nat) (T : Nat → ByteArray) (m : Nat) : ∀ i, (∀ j, i ≤ j → j < i + m → (T j).size ≤ 2000) → (stackL n T i m).length ≤ m * 2048 := by
  induction m with
  | zero => intro i _; simp [stackL]
  | succ m ih =>
    intro i h
    have h1 := ih (i + 1) (fun j a b => h j (by omega) (by omega))
    have h2 := h i (Nat.le_refl _) (by omega)
    rw [stackL, List.length_append, frameL_length, data_len]
    have : secs (T i).size ≤ 4 := by unfold secs; omega
    omega
theorem str_size (l : List UInt8) (b : Nat) (h : l.length ≤ b) : (S l).size ≤ b := by rw [S_size]; exact h

set_option maxHeartbeats 2000000 in
set_option maxRecDepth 100000 in
theorem frameStacks_big (a1 : Option Addr) (len cap n : Nat) (w : World) (hst : Steps w) (hl : 20 < len) (hl2 : len ≤ 9223372036854775807) : Calls Tryd.prog 6 #[.slice a1 len cap, .int .u64 n] w fun e w' => e = .returned (.bool true) ∧ Below w.heap.size w w' := by
  have hwk := fun w h => wakes_any w h
  have Hwk := Lib.hid hwk
  have Hst := Lib.hid hst
  clear hwk hst
  go_enter Tryd.func6, Tryd.ntmps6
  go_wp2_with (first
      | (go_at_call 9; refine (Hwk.out _ Hst.out).mono ?_; rintro e w1 ⟨rfl, hb1⟩)
      | fail)
  go_ret
  exact ⟨rfl, hb1⟩

set_option maxHeartbeats 4000000 in
set_option maxRecDepth 100000 in
theorem frameStacks_go (a1 : Option Addr) (len cap n : Nat) (T : Nat → ByteArray) (w : World) (hst : Steps w) (hT : StrRow w a1 len T) (hl : len ≤ 20) : Calls Tryd.prog 6 #[.slice a1 len cap, .int .u64 n] w fun e w' => e = .returned (.bool true) ∧ Below w.heap.size w w' := by
  have hwk := fun w h => wakes_any w h
  have Hwk := Lib.hid hwk
  have Hst := Lib.hid hst
  have HT := Lib.hid hT
  clear hwk hst hT
  go_enter Tryd.func6, Tryd.ntmps6
  go_wp2_with fail
  go_loopw [5, 6] (fun v i wr => ∃ k : Nat, k ≤ len ∧ i = .int .i64 k ∧ (∀ j, j < k → (T j).size ≤ 2000) ∧ (∃ u, v = .string u ∧ Hid (u = S (stackL n T 0 k))) ∧ Below w.heap.size w wr) (fun _ i _ => len - (intOf i).toNat)
  case atStart => exact ⟨0, by omega, rfl, fun j hj => by omega, ⟨_, rfl, rfl⟩, Below.refl _ _⟩
  case round =>
    obtain ⟨k, hk, rfl, hsz, ⟨u, rfl, hu⟩, hb⟩ := hrel
    have Hsz := Lib.hid hsz
    clear hsz
    by_cases hlt : k < len
    · obtain ⟨hmx, sb, so, rfl, hc⟩ := (HT.out.below hb) k hlt
      unfold maxLen at hmx
      have Hb := Lib.hid hb
      clear hb
      by_cases hbig : 2000 < (T k).size
      · go_wp2_with (first
          | (go_at_call 9; refine (Hwk.out _ (Hst.out.below Hb.out)).mono ?_; rintro e w1 ⟨rfl, hb1⟩)
          | fail)
        go_ret
        exact ⟨rfl, Hb.out.trans (hb1.mono Hb.out.size)⟩
      · have hp := put_frame (numAt n k) (T k) wr (Hst.out.below Hb.out) (by omega)
        have hnum := wrap_num n k
        have hfu : (S (frameL (numAt n k) (T k).data.toList)).size ≤ 2048 := by
          rw [S_size, frameL_length, data_len]
          unfold secs
          omega
        have huz : u.size ≤ 50000 := by
          rw [hu.out]
          exact str_size _ _ (Nat.le_trans (stackL_length n T k 0 (fun j _ h => Hsz.out j (by omega))) (by omega))
        have hnx : Hid (u ++ S (frameL (numAt n k) (T k).data.toList) = S (stackL n T 0 (k + 1))) := by
          show u ++ S (frameL (numAt n k) (T k).data.toList) = _
          rw [hu.out, app_S, S_list, stackL_snoc, Nat.zero_add]
        generalize S (frameL (numAt n k) (T k).data.toList) = fr at *
        generalize numAt n k = nk at *
        have Hp := Lib.hid hp
        clear hp hu
        go_wp2_with (first
          | (go_at_call 10; refine Hp.out.mono ?_; rintro e w1 ⟨rfl, hb1⟩)
          | fail)
        go_roundw
        case rel => exact ⟨k + 1, by omega, by go_num, fun j hj => by
            by_cases e : j = k
            · subst e; omega
            · exact Hsz.out j (by omega), ⟨_, rfl, hnx⟩, Hb.out.trans (hb1.mono Hb.out.size)⟩
        case measure => simp [intOf]; omega
    · obtain rfl : k = len := by omega
      go_wp2_with fail
      have Hb := Lib.hid hb
      clear hb
      go_loopw [5, 9] (fun v i wx => ∃ j : Nat, j ≤ k ∧ i = .int .i64 j ∧ (∃ u, v = .string u ∧ Hid (u = S (stackL n T j (k - j)))) ∧ Below w.heap.size w wx) (fun _ i _ => k - (intOf i).toNat)
      case atStart => exact ⟨0, by omega, rfl, ⟨_, rfl, by rw [Nat.sub_zero]; exact hu⟩, Hb.out⟩
      case round =>
        obtain ⟨j, hj, rfl, ⟨x, rfl, hx⟩, hb2⟩ := hrel
        clear hu
        have hxz : x.size ≤ 50000 := by
          rw [hx.out]
          exact str_size _ _ (Nat.le_trans (stackL_length n T (k - j) j (fun i _ h => Hsz.out i (by omega))) (by omega))
        have Hb2 := Lib.hid hb2
        clear hb2
        by_cases hlt2 : j < k
        · obtain ⟨hmx, sb, so, rfl, hc⟩ := (HT.out.below Hb2.out) j hlt2
          clear hmx
          have hszj := Hsz.out j hlt2
          have hmore : x.data.toList = frameL (numAt n j) (T j).data.toList ++ stackL n T (j + 1) (k - (j + 1)) := by
            rw [hx.out, S_list, show k - j = (k - (j + 1)) + 1 by omega]
            rfl
          have hg := get_frame x (numAt n j) (T j).data.toList _ hmore (numAt_lt n j) (by rw [data_len]; omega) (by omega) wr (Hst.out.below Hb2.out)
          rw [S_data, data_len] at hg
          have hsecs : secs (T j).size ≤ 4 := by unfold secs; omega
          have hxs : secs (T j).size * 512 + (stackL n T (j + 1) (k - (j + 1))).length = x.size := by
            rw [← data_len x, hmore, List.length_append, frameL_length, data_len]
          have hrest : Hid (x.extract (secs (T j).size * 512) x.size = S (stackL n T (j + 1) (k - (j + 1)))) := by
            refine ext_mid x (frameL (numAt n j) (T j).data.toList) _ [] _ _ (by rw [hmore, List.append_nil]) (by rw [frameL_length, data_len]) (by omega)
          have hnum := wrap_num n j
          clear hmore hx
          have hle : secs (T j).size * 512 ≤ x.size := by omega
          clear hxs
          obtain ⟨z, hz⟩ : ∃ z, z = secs (T j).size := ⟨_, rfl⟩
          rw [← hz] at hg hrest hle hsecs
          clear hz
          generalize numAt n j = nj at *
          have Hg := Lib.hid hg
          clear hg
          go_wp2_with (first
            | (go_at_call 14; refine Hg.out.mono ?_; rintro e w1 ⟨rfl, hb1⟩; have hc1 := (hb1.cell (World.block_lt_of_cell? wr _ hc)).trans hc; have Hb3 := Lib.hid (Hb2.out.trans (hb1.mono Hb2.out.size)); clear hb1 hc)
            | fail)
          go_roundw
          case rel => exact ⟨j + 1, by omega, by go_num, ⟨_, rfl, hrest⟩, Hb3.out⟩
          case measure => simp [intOf]; omega
        · obtain rfl : j = k := by omega
          have hxe : x = ⟨#[]⟩ := by rw [hx.out, Nat.sub_self]; rfl
          subst hxe
          clear hx
          go_wp2_with (first
            | (go_at_call 9; refine (Hwk.out _ (Hst.out.below Hb2.out)).mono ?_; rintro e w1 ⟨rfl, hb1⟩)
            | fail)
          go_ret
          exact ⟨rfl, Hb2.out.trans (hb1.mono Hb2.out.size)⟩
theorem frameStacks_any (a1 : Option Addr) (len cap : Nat) (T : Nat → ByteArray) (n : Nat) (w : World) (hst : Steps w) (_hn : n < 18446744073709551616) (hl : len ≤ maxLen) (hT : StrRow w a1 len T) : Calls Tryd.prog 6 #[.slice a1 len cap, .int .u64 n] w fun e w' => e = .returned (.bool true) ∧ Below w.heap.size w w' := by
  by_cases h : 20 < len
  · exact frameStacks_big a1 len cap n w hst h (by unfold maxLen at hl; omega)
  · exact frameStacks_go a1 len cap n T w hst hT (by omega)
end Go.Proofs.YtgcldacpaommiaaDoor
