/- frames: FrameGets: the walk. -/
import Derived.Test.YtgcldacpaommiaaDoorFrRefGet2
import Derived.Test.YtgcldacpaommiaaDoorFrPutsLaw
namespace Go.Proofs.YtgcldacpaommiaaDoor
open Go.RowKit Go.Deep

/-- both readers tell the same. -/
def Both (s t : ByteArray) (n : Nat) (z k : Int) : Prop :=
  (∀ w, Steps w → Calls Tryd.prog 14 #[.string s] w fun e w' => e = .returned (.tuple #[.int .u64 n, .string t, .int .i64 z, .int .i64 k]) ∧ Below w.heap.size w w') ∧
  (∀ w, Calls Tryd.prog 15 #[.string s] w fun e w' => e = tellV n t z k ∧ Below w.heap.size w w')
theorem both_no (s : ByteArray) (k : Int) (h1 : ∀ w, Steps w → Calls Tryd.prog 28 #[.string s] w fun e w' => e = fault k ∧ Below w.heap.size w w')
    (h2 : ∀ w, Calls Tryd.prog 15 #[.string s] w fun e w' => e = tellV 0 ⟨#[]⟩ 0 k ∧ Below w.heap.size w w') : ∃ t n z k, Both s t n z k :=
  ⟨⟨#[]⟩, 0, 0, k, fun w hw => get_fault s w k hw h1, h2⟩
theorem both_any (s : ByteArray) (hs : s.size ≤ 1000000) : ∃ t n z k, Both s t n z k := by
  by_cases hA : s.size < 20
  · exact both_no s 50 (fun w hw => got_A s w hw hs hA) (fun w => rget_A s w hA)
  have hA := Nat.le_of_not_lt hA
  cases cB : eqB (s.extract 0 4) mark
  · exact both_no s 50 (fun w hw => got_B s w hw hs hA cB) (fun w => rget_B s w hA hs cB)
  cases cC : eqB (s.extract 16 20) (dig (s.extract 0 16))
  · exact both_no s 51 (fun w hw => got_C s w hw hs hA cB cC) (fun w => rget_C s w hA hs cB cC)
  by_cases hD : 65536 < bigN (sub s 12 4)
  · exact both_no s 50 (fun w hw => got_D s w hw hs hA cB cC hD) (fun w => rget_D s w hs hA cB cC hD)
  have hD := Nat.le_of_not_lt hD
  by_cases hE : s.size < secs (bigN (sub s 12 4)) * 512
  · exact both_no s 50 (fun w hw => got_E s w hw hs hA cB cC hD hE) (fun w => rget_E s w hs hA cB cC hD hE)
  have hE := Nat.le_of_not_lt hE
  cases cF : eqB (s.extract (20 + bigN (sub s 12 4)) (24 + bigN (sub s 12 4))) (dig (s.extract 20 (20 + bigN (sub s 12 4))))
  · exact both_no s 51 (fun w hw => got_F s w hw hs hA cB cC hD hE cF) (fun w => rget_F s w hs hA cB cC hD hE cF)
  cases cG : allz (s.extract (24 + bigN (sub s 12 4)) (secs (bigN (sub s 12 4)) * 512)).data.toList
  · exact both_no s 50 (fun w hw => got_G s w hw hs hA cB cC hD hE cF cG) (fun w => rget_G s w hs hA cB cC hD hE cF cG)
  exact ⟨_, _, _, 0, fun w hw => get_found s _ _ _ w hw (fun w hw => got_ok s w hw hs hA cB cC hD hE cF cG), fun w => rget_ok s w hs hA cB cC hD hE cF cG⟩

set_option maxHeartbeats 2000000 in
set_option maxRecDepth 100000 in
theorem frameGets_any (s : ByteArray) (w : World) (hst : Steps w) (hs : s.size ≤ 9223372036854775807) : Calls Tryd.prog 4 #[.string s] w fun e w' => e = .returned (.bool true) ∧ Below w.heap.size w w' := by
  have hwk := fun w h => wakes_any w h
  have Hwk := Lib.hid hwk
  have Hst := Lib.hid hst
  clear hwk hst
  by_cases h1 : 70000 < s.size
  · go_enter Tryd.func4, Tryd.ntmps4
    go_wp2_with (first
      | (go_at_call 9; refine (Hwk.out _ Hst.out).mono ?_; rintro e w1 ⟨rfl, hb1⟩)
      | fail)
    go_ret
    exact ⟨rfl, hb1⟩
  obtain ⟨t, n, z, k, hg, hr⟩ := both_any s (by omega)
  unfold tellV at hr
  have Hg := Lib.hid hg
  have Hr := Lib.hid hr
  clear hg hr
  go_enter Tryd.func4, Tryd.ntmps4
  go_wp2_with (first
    | (go_at_call 14; refine (Hg.out _ Hst.out).mono ?_; rintro e w1 ⟨rfl, hb1⟩)
    | (go_at_call 15; refine (Hr.out _).mono ?_; rintro e w2 ⟨rfl, hb2⟩; have Hb2 := Lib.hid (hb1.trans (hb2.mono hb1.size)); clear hb1 hb2)
    | (go_at_call 9; have Hb3 := Lib.hid (Hb2.out.alloc Hb2.out.size (.cells #[.int .u64 n, .string t, .int .i64 z] 34)); refine (Hwk.out _ (Hst.out.below Hb3.out)).mono ?_; rintro e w5 ⟨rfl, hb5⟩; have Hb5 := Lib.hid (Hb3.out.trans (hb5.mono Hb3.out.size)); clear hb5 Hb2 Hb3)
    | fail)
  go_ret
  exact ⟨rfl, Hb5.out⟩
end Go.Proofs.YtgcldacpaommiaaDoor
