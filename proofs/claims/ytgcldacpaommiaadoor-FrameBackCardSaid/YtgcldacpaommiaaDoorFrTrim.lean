/- frames: strings.HasPrefix, strings.Trim at bytes 0, want: the walks. -/
import Derived.Test.YtgcldacpaommiaaDoorFrBig
import Derived.StillTailTactics
namespace Go.Proofs.YtgcldacpaommiaaDoor
open Go.RowKit Go.Deep

theorem ext_list (u : ByteArray) (a b : Nat) : (u.extract a b).data.toList = (u.data.toList.take b).drop a := by simp [List.drop_take]
theorem ext_sub (u : ByteArray) (a b : Nat) : u.extract a b = S (sub u a (b - a)) := by
  apply ByteArray.ext
  apply Array.toList_inj.1
  rw [ext_list]
  unfold sub S
  rw [List.drop_take]
/-- all bytes are 0. -/
def allz (l : List UInt8) : Bool := l.all (· == 0)
def trimL (s : ByteArray) : ByteArray := S (s.data.toList.dropWhile (· == 0))
def trimR (s : ByteArray) : ByteArray := S (s.data.toList.reverse.dropWhile (· == 0)).reverse
theorem left_cons (u : ByteArray) (c : UInt8) (h : u.data.toList.take (0 + 1) = u.data.toList.take 0 ++ [c]) : u.data.toList = c :: u.data.toList.drop 1 := by
  conv => lhs; rw [← List.take_append_drop 1 u.data.toList]
  rw [show 1 = 0 + 1 from rfl, h]
  simp
theorem right_snoc (u : ByteArray) (n : Nat) (hn : u.size = n + 1) (c : UInt8) (h : u.data.toList.take (n + 1) = u.data.toList.take n ++ [c]) : u.data.toList = u.data.toList.take n ++ [c] := by
  rw [← h, List.take_of_length_le (by rw [data_len]; omega)]
theorem zero_byte {c : UInt8} (hc : c.toNat = 0) : c = 0 := UInt8.toNat_inj.1 hc
theorem left_step (u : ByteArray) (c : UInt8) (h : u.data.toList.take (0 + 1) = u.data.toList.take 0 ++ [c]) (hc : c.toNat = 0) : trimL (u.extract 1 u.size) = trimL u := by
  unfold trimL
  rw [ext_list, List.take_of_length_le (by rw [data_len]; omega)]
  conv => rhs; rw [left_cons u c h]
  rw [zero_byte hc]
  simp
theorem left_end (u : ByteArray) (c : UInt8) (h : u.data.toList.take (0 + 1) = u.data.toList.take 0 ++ [c]) (hc : ¬ c.toNat = 0) : trimL u = u := by
  unfold trimL
  have hc' : (c == 0) = false := by
    simp only [beq_eq_false_iff_ne]
    intro e
    rw [e] at hc
    exact hc rfl
  have h1 := left_cons u c h
  rw [h1, List.dropWhile_cons_of_neg (by simp [hc']), ← h1, S_data]
theorem right_step (u : ByteArray) (n : Nat) (hn : u.size = n + 1) (c : UInt8) (h : u.data.toList.take (n + 1) = u.data.toList.take n ++ [c]) (hc : c.toNat = 0) : trimR (u.extract 0 n) = trimR u := by
  unfold trimR
  rw [ext_list, List.drop_zero]
  conv => rhs; rw [right_snoc u n hn c h]
  rw [zero_byte hc]
  simp
theorem right_end (u : ByteArray) (n : Nat) (hn : u.size = n + 1) (c : UInt8) (h : u.data.toList.take (n + 1) = u.data.toList.take n ++ [c]) (hc : ¬ c.toNat = 0) : trimR u = u := by
  unfold trimR
  have hc' : (c == 0) = false := by
    simp only [beq_eq_false_iff_ne]
    intro e
    rw [e] at hc
    exact hc rfl
  have h1 := right_snoc u n hn c h
  rw [h1, List.reverse_append, List.reverse_singleton, List.singleton_append, List.dropWhile_cons_of_neg (by simp [hc']), List.reverse_cons, List.reverse_reverse, ← h1, S_data]
theorem list_nil (u : ByteArray) (h : u.size = 0) : u.data.toList = [] := List.eq_nil_of_length_eq_zero (by rw [data_len]; omega)
theorem left_nil (u : ByteArray) (h : u.size = 0) : trimL u = u := by
  unfold trimL
  conv => rhs; rw [← S_data u]
  rw [list_nil u h]
  rfl
theorem right_nil (u : ByteArray) (h : u.size = 0) : trimR u = u := by
  unfold trimR
  conv => rhs; rw [← S_data u]
  rw [list_nil u h]
  rfl
theorem trimR_size (s : ByteArray) : (trimR s).size ≤ s.size := by
  unfold trimR
  rw [S_size, ← data_len, List.length_reverse]
  have := (List.dropWhile_sublist (l := s.data.toList.reverse) (fun c => c == 0)).length_le
  rw [List.length_reverse] at this
  exact this
theorem dropz_nil (l : List UInt8) : l.dropWhile (· == 0) = [] ↔ allz l = true := by
  induction l with
  | nil => simp [allz]
  | cons c l ih =>
    rw [List.dropWhile_cons]
    by_cases h : (c == 0) = true
    · rw [if_pos h, ih]; simp [allz] at *; simp [h]
    · rw [if_neg h]; simp [allz] at *; simp [h]
theorem allz_reverse (l : List UInt8) : allz l.reverse = allz l := by unfold allz; rw [List.all_reverse]
theorem S_nil_iff (l : List UInt8) : S l = ⟨#[]⟩ ↔ l = [] := ⟨fun h => S_inj (b := []) h, fun h => by rw [h]; rfl⟩
theorem trim_nil (s : ByteArray) : eqB (trimL (trimR s)) ⟨#[]⟩ = allz s.data.toList := by
  unfold eqB
  rw [Bool.eq_iff_iff, decide_eq_true_iff]
  unfold trimL
  rw [S_nil_iff, dropz_nil]
  unfold trimR
  rw [S_list, allz_reverse]
  have h3 := dropz_nil s.data.toList.reverse
  rw [allz_reverse] at h3
  refine Iff.trans ?_ h3
  generalize s.data.toList.reverse = l
  constructor
  · intro h
    rcases hd : l.dropWhile (· == 0) with _ | ⟨c, t⟩
    · rfl
    · rw [hd] at h
      have h2 := List.head_dropWhile_not (fun c : UInt8 => c == 0) (l := l) (by rw [hd]; simp)
      simp only [hd, List.head_cons] at h2
      simp [allz] at h
      rw [h.1] at h2
      simp at h2
  · intro h; rw [h]; rfl

set_option maxHeartbeats 1000000 in
set_option maxRecDepth 100000 in
theorem trimL_any (s : ByteArray) (w : World) (hs : s.size ≤ 1000000) : Calls Tryd.prog 49 #[.string s, .int .u8 0] w fun e w' => e = .returned (.string (trimL s)) ∧ w = w' := by
  go_enter Tryd.func49, Tryd.ntmps49
  go_wp2_with fail
  go_loop [0] (fun v => ∃ u, v = .string u ∧ u.size ≤ s.size ∧ Hid (trimL u = trimL s)) (fun v => match v with | .string u => u.size | _ => 0)
  case atStart => exact ⟨s, rfl, Nat.le_refl _, rfl⟩
  case round =>
    obtain ⟨u, rfl, hul, hu⟩ := hrel
    by_cases h0 : 0 < u.size
    · obtain ⟨c, hc, hts⟩ := byte_at u 0 h0
      have hcn : ∀ h : 0 < u.size, (u[0]'h).toNat = c.toNat := fun h => by rw [hc h]
      by_cases hz : c.toNat = 0
      · rw [hz] at hcn
        go_wp2_with fail
        go_round
        case rel => exact ⟨_, rfl, by rw [ByteArray.size_extract]; omega, (left_step u c hts hz).trans hu.out⟩
        case measure => show (u.extract 1 u.size).size < u.size; rw [ByteArray.size_extract]; omega
      · have d1 : ((c.toNat : Int) == 0) = false := by simp; omega
        go_wp2_with fail
        go_ret
        exact ⟨ret_str ((left_end u c hts hz).symm.trans hu.out), rfl⟩
    · go_wp2_with fail
      go_ret
      exact ⟨ret_str ((left_nil u (by omega)).symm.trans hu.out), rfl⟩

set_option maxHeartbeats 1000000 in
set_option maxRecDepth 100000 in
theorem trimR_any (s : ByteArray) (w : World) (hs : s.size ≤ 1000000) : Calls Tryd.prog 50 #[.string s, .int .u8 0] w fun e w' => e = .returned (.string (trimR s)) ∧ w = w' := by
  go_enter Tryd.func50, Tryd.ntmps50
  go_wp2_with fail
  go_loop [0] (fun v => ∃ u, v = .string u ∧ u.size ≤ s.size ∧ Hid (trimR u = trimR s)) (fun v => match v with | .string u => u.size | _ => 0)
  case atStart => exact ⟨s, rfl, Nat.le_refl _, rfl⟩
  case round =>
    obtain ⟨u, rfl, hul, hu⟩ := hrel
    by_cases h0 : 0 < u.size
    · obtain ⟨n, hn⟩ : ∃ n, u.size = n + 1 := ⟨u.size - 1, by omega⟩
      obtain ⟨c, hc, hts⟩ := byte_at u n (by omega)
      have hcn : ∀ h : n < u.size, (u[n]'h).toNat = c.toNat := fun h => by rw [hc h]
      have e1 : (u.size : Int) - 1 = n := by omega
      have d0 : n < u.size := by omega
      by_cases hz : c.toNat = 0
      · rw [hz] at hcn
        have Hn := Lib.hid hn
        clear hn
        go_wp2_with fail
        go_round
        case rel => exact ⟨_, rfl, by rw [ByteArray.size_extract]; omega, (right_step u n Hn.out c hts hz).trans hu.out⟩
        case measure => show (u.extract 0 n).size < u.size; rw [ByteArray.size_extract]; omega
      · have d1 : ((c.toNat : Int) == 0) = false := by simp; omega
        have Hn := Lib.hid hn
        clear hn
        go_wp2_with fail
        go_ret
        exact ⟨ret_str ((right_end u n Hn.out c hts hz).symm.trans hu.out), rfl⟩
    · go_wp2_with fail
      go_ret
      exact ⟨ret_str ((right_nil u (by omega)).symm.trans hu.out), rfl⟩

theorem same_swap {P : Program} {f : FuncId} {args : Array Value} {w : World} {v : Value} (h : Calls P f args w fun e w' => e = .returned v ∧ w = w') : Calls P f args w fun e w' => e = .returned v ∧ w' = w := h.mono fun _ _ ⟨a, b⟩ => ⟨a, b.symm⟩

set_option maxHeartbeats 1000000 in
set_option maxRecDepth 100000 in
theorem trim_any (s : ByteArray) (w : World) (hs : s.size ≤ 1000000) : Calls Tryd.prog 41 #[.string s, .string ⟨#[0]⟩] w fun e w' => e = .returned (.string (trimL (trimR s))) ∧ ∃ n, w' = w.drewN n := by
  by_cases h0 : s.size = 0
  · have e1 : trimL (trimR s) = s := by rw [right_nil s h0, left_nil s h0]
    rw [e1]
    obtain rfl : s = ⟨#[]⟩ := by rw [← S_data s, list_nil s h0]; rfl
    clear h0 e1
    go_enter Tryd.func41, Tryd.ntmps41
    go_wp2_with fail
    go_ret
    exact ⟨rfl, 0, rfl⟩
  · have d1 : ¬ s.toList = [] := fun e => h0 (by
      have h2 : (s.toList == (⟨#[]⟩ : ByteArray).toList) = true := by rw [e, ByteArray.toList_eq]; rfl
      rw [eqB_toList] at h2
      rw [of_decide_eq_true h2]
      rfl)
    have d2 : s.toList.isEmpty = false := by rw [List.isEmpty_eq_false_iff]; exact d1
    have hr := fun w => trimR_any s w hs
    have hl := fun w => trimL_any (trimR s) w (by have := trimR_size s; omega)
    generalize trimL (trimR s) = r at *
    generalize trimR s = l at *
    have hcst : ∀ h : 0 < (⟨#[0]⟩ : ByteArray).size, ((⟨#[0]⟩ : ByteArray)[0]'h).toNat = 0 := fun _ => rfl
    have Hl := Lib.hid hl
    have Hr := Lib.hid hr
    clear hl hr h0
    go_enter Tryd.func41, Tryd.ntmps41
    go_wp2_with fail
    go_quiet (first
      | (go_at_call 49; exact Calls.quiet_of_same (same_swap (Hl.out _)))
      | (go_at_call 50; exact Calls.quiet_of_same (same_swap (Hr.out _)))
      | fail)
    go_wp2_with fail
    go_ret
    exact ⟨rfl, _, rfl⟩

set_option maxHeartbeats 1000000 in
set_option maxRecDepth 100000 in
theorem sprefix_any (s : ByteArray) (w : World) (h4 : 4 ≤ s.size) (hs : s.size ≤ 1000000) : Calls Tryd.prog 48 #[.string s, .string ⟨#[72, 71, 70, 82]⟩] w fun e w' => e = .returned (.bool (eqB (s.extract 0 4) mark)) ∧ w = w' := by
  go_enter Tryd.func48, Tryd.ntmps48
  go_wp2_with fail
  go_ret
  have hm : mark.toList = [72, 71, 70, 82] := by rw [ByteArray.toList_eq]; rfl
  rw [← hm]
  exact ⟨ret_bool (eqB_toList _ mark), rfl⟩
set_option maxHeartbeats 1000000 in
set_option maxRecDepth 100000 in
theorem prefix_any (s : ByteArray) (w : World) (h4 : 4 ≤ s.size) (hs : s.size ≤ 1000000) : Calls Tryd.prog 39 #[.string s, .string ⟨#[72, 71, 70, 82]⟩] w fun e w' => e = .returned (.bool (eqB (s.extract 0 4) mark)) ∧ w = w' := by
  have H := Lib.hid (sprefix_any s w h4 hs)
  go_enter Tryd.func39, Tryd.ntmps39
  go_wp2_with (go_at_call 48; refine H.out.mono ?_; rintro e w1 ⟨rfl, rfl⟩)
  go_ret
  exact ⟨rfl, rfl⟩

def fault (k : Int) : Ending := .panicked [{ v := .iface 61 (.agg #[.int .i64 k]), recovered := false }]
set_option maxHeartbeats 1000000 in
theorem want_yes (k : Int) (w : World) : Calls Tryd.prog 38 #[.bool true, .int .i64 k] w fun e w' => e = .returned (.tuple #[]) ∧ w = w' := by
  go_enter Tryd.func38, Tryd.ntmps38
  go_wp2_with fail
  go_end0
  exact ⟨rfl, rfl⟩
set_option maxHeartbeats 1000000 in
theorem want_no (k : Int) (w : World) : Calls Tryd.prog 38 #[.bool false, .int .i64 k] w fun e w' => e = .panicked [{ v := .iface 61 (.agg #[.int .i64 k]), recovered := false }] ∧ w = w' := by
  go_enter Tryd.func38, Tryd.ntmps38
  go_wp2_with fail
  exact ⟨rfl, rfl, rfl⟩
end Go.Proofs.YtgcldacpaommiaaDoor
