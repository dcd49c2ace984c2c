/- units: Add: the calls that are refused at once. -/
import Derived.Test.YtbcofdecdknkeaaUnAdd
import Derived.Deep.AppendLies
namespace Go.Proofs.Ytbcofdecdknkeaa
open Go.RowKit Go.Deep Go.Maps

set_option maxHeartbeats 1000000 in
set_option maxRecDepth 100000 in
theorem add_out (b : Nat) (lun why : Int) (host : ByteArray) (w : World) (hbad : ¬ (0 ≤ lun ∧ lun < 8 ∧ 1 ≤ why ∧ why ≤ 4)) :
    Calls Try.prog 7 #[.pointer (some ⟨b, 0, none⟩), .int .i64 lun, .string host, .int .i64 why] w fun e w' => e = .returned (.bool false) ∧ w = w' := by
  by_cases h1 : lun < 0
  · have d1 : decide (lun < 0) = true := by simp; omega
    clear hbad
    go_enter Try.func7, Try.ntmps7
    go_wp2_with fail
    go_ret
    exact ⟨rfl, rfl⟩
  have d1 : decide (lun < 0) = false := by simp; omega
  by_cases h2 : 8 ≤ lun
  · have d2 : decide (8 ≤ lun) = true := by simp; omega
    clear hbad
    go_enter Try.func7, Try.ntmps7
    go_wp2_with fail
    go_ret
    exact ⟨rfl, rfl⟩
  have d2 : decide (8 ≤ lun) = false := by simp; omega
  by_cases h3 : why < 1
  · have d3 : decide (why < 1) = true := by simp; omega
    clear hbad
    go_enter Try.func7, Try.ntmps7
    go_wp2_with fail
    go_ret
    exact ⟨rfl, rfl⟩
  have d3 : decide (why < 1) = false := by simp; omega
  have h4 : 4 < why := by omega
  have d4 : decide (4 < why) = true := by simp; omega
  clear hbad
  go_enter Try.func7, Try.ntmps7
  go_wp2_with fail
  go_ret
  exact ⟨rfl, rfl⟩

set_option maxHeartbeats 1000000 in
set_option maxRecDepth 100000 in
theorem add_name (b : Nat) (lun why : Int) (host : ByteArray) (w : World) (h1 : 0 ≤ lun) (h2 : lun < 8) (h3 : 1 ≤ why) (h4 : why ≤ 4) (hh : host.size ≤ maxLen) (hn : nameB host = false) :
    Calls Try.prog 7 #[.pointer (some ⟨b, 0, none⟩), .int .i64 lun, .string host, .int .i64 why] w fun e w' => e = .returned (.bool false) ∧ Below w.heap.size w w' := by
  have d1 : decide (lun < 0) = false := by simp; omega
  have d2 : decide (8 ≤ lun) = false := by simp; omega
  have d3 : decide (why < 1) = false := by simp; omega
  have d4 : decide (4 < why) = false := by simp; omega
  have hname := name_any host w hh
  rw [hn] at hname
  have Hn := Lib.hid hname
  clear hn hname
  go_enter Try.func7, Try.ntmps7
  go_wp2_with (go_at_call 21; refine Hn.out.mono ?_; rintro e w1 ⟨rfl, hb1⟩)
  go_ret
  exact ⟨rfl, hb1⟩

end Go.Proofs.Ytbcofdecdknkeaa
