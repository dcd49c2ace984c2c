/- frames: wakes, FramePuts: the walks. -/
import Derived.Test.YtgcldacpaommiaaDoorFrWhole
namespace Go.Proofs.YtgcldacpaommiaaDoor
open Go.RowKit Go.Deep

theorem frameL_length (n : Nat) (t : List UInt8) : (frameL n t).length = secs t.length * 512 := by
  obtain ⟨z, h1, h2⟩ := frame_parts (S (frameL n t)) n t [] (by simp [S_list])
  rw [S_list] at h1
  rw [h1]
  simp [headL_length, digest_length]
  omega

def ab : ByteArray := ⟨#[97, 98]⟩
set_option maxHeartbeats 2000000 in
set_option maxRecDepth 100000 in
theorem wakes_any (w : World) (hst : Steps w) : Calls Tryd.prog 9 #[] w fun e w' => e = .returned (.bool true) ∧ Below w.heap.size w w' := by
  have hp : Calls Tryd.prog 10 #[.int .u64 7, .string ⟨#[97, 98]⟩] w fun e w' => e = .returned (.tuple #[.string (S (frameL 7 [97, 98])), .int .i64 0]) ∧ Below w.heap.size w w' := put_frame 7 ab w hst (by decide)
  have hz : (S (frameL 7 [97, 98])).size = 512 := by rw [S_size, frameL_length]; rfl
  have hg : ∀ w, Steps w → Calls Tryd.prog 14 #[.string (S (frameL 7 [97, 98]))] w fun e w' => e = .returned (.tuple #[.int .u64 7, .string ⟨#[97, 98]⟩, .int .i64 512, .int .i64 0]) ∧ Below w.heap.size w w' := fun w h => get_frame (S (frameL 7 [97, 98])) 7 [97, 98] [] (by simp [S_list]) (by decide) (by decide) (by rw [hz]; decide) w h
  have hs1 : ∀ w, Calls Tryd.prog 12 #[.int .i64 488] w fun e w' => e = .returned (.int .i64 1) ∧ w = w' := fun w => sectors_any 488 w
  have hs2 : ∀ w, Calls Tryd.prog 12 #[.int .i64 489] w fun e w' => e = .returned (.int .i64 2) ∧ w = w' := fun w => sectors_any 489 w
  generalize S (frameL 7 [97, 98]) = fr at *
  have Hp := Lib.hid hp
  have Hg := Lib.hid hg
  have Hs1 := Lib.hid hs1
  have Hs2 := Lib.hid hs2
  have Hst := Lib.hid hst
  have Tok : Hid (1 = 1) := rfl
  clear hp hg hs1 hs2 hst
  go_enter Tryd.func9, Tryd.ntmps9
  go_wp2_with (first
    | (go_at_call 10; refine Hp.out.mono ?_; rintro e w1 ⟨rfl, hb1⟩)
    | (go_at_call 14; refine (Hg.out _ (Hst.out.below hb1)).mono ?_; rintro e w2 ⟨rfl, hb2⟩; have Hb2 := Lib.hid (hb1.trans (hb2.mono hb1.size)); clear hb1 hb2)
    | (go_at_call 12; have hq := Tok; refine (Hs1.out _).mono ?_; rintro e w3 ⟨rfl, rfl⟩; clear hq Tok)
    | (go_at_call 12; refine (Hs2.out _).mono ?_; rintro e w4 ⟨rfl, rfl⟩)
    | fail)
  go_ret
  exact ⟨rfl, Hb2.out⟩

set_option maxHeartbeats 2000000 in
set_option maxRecDepth 100000 in
theorem framePuts_any (n : Nat) (t : ByteArray) (len : Int) (w : World) (hst : Steps w) (hn : n < 18446744073709551616) (ht : t.size ≤ 9223372036854775807) : Calls Tryd.prog 3 #[.int .u64 n, .string t, .int .i64 len] w fun e w' => e = .returned (.bool true) ∧ Below w.heap.size w w' := by
  have hwk := fun w h => wakes_any w h
  have Hwk := Lib.hid hwk
  have Hst := Lib.hid hst
  clear hwk hst
  by_cases h1 : 70000 < t.size
  · clear hn
    go_enter Tryd.func3, Tryd.ntmps3
    go_wp2_with (first
      | (go_at_call 9; refine (Hwk.out _ Hst.out).mono ?_; rintro e w1 ⟨rfl, hb1⟩)
      | fail)
    go_ret
    exact ⟨rfl, hb1⟩
  have hs1 := fun w => sectors_any len w
  have hs2 := fun w => rsectors_any len w
  have Hs1 := Lib.hid hs1
  have Hs2 := Lib.hid hs2
  clear hs1 hs2
  by_cases h2 : 65536 < t.size
  · have hp := fun w => putLong_any n t w h2 ht
    have hr := fun w => rputLong_any n t w h2 ht
    have Hp := Lib.hid hp
    have Hr := Lib.hid hr
    clear hp hr hn
    go_enter Tryd.func3, Tryd.ntmps3
    go_wp2_with (first
      | (go_at_call 10; refine (Hp.out _).mono ?_; rintro e w1 ⟨rfl, rfl⟩)
      | (go_at_call 11; refine (Hr.out _).mono ?_; rintro e w2 ⟨rfl, rfl⟩)
      | (go_at_call 12; refine (Hs1.out _).mono ?_; rintro e w3 ⟨rfl, rfl⟩)
      | (go_at_call 13; refine (Hs2.out _).mono ?_; rintro e w4 ⟨rfl, rfl⟩)
      | (go_at_call 9; refine (Hwk.out _ Hst.out).mono ?_; rintro e w5 ⟨rfl, hb5⟩)
      | fail)
    go_ret
    exact ⟨rfl, hb5⟩
  · have hp := fun w h => put_frame n t w h (by omega)
    have hr := fun w => rput_frame n t w hn (by omega)
    generalize S (frameL n t.data.toList) = fr at *
    have Hp := Lib.hid hp
    have Hr := Lib.hid hr
    clear hp hr hn
    go_enter Tryd.func3, Tryd.ntmps3
    go_wp2_with (first
      | (go_at_call 10; refine (Hp.out _ Hst.out).mono ?_; rintro e w1 ⟨rfl, hb1⟩)
      | (go_at_call 11; refine (Hr.out _).mono ?_; rintro e w2 ⟨rfl, hb2⟩; have Hb2 := Lib.hid (hb1.trans (hb2.mono hb1.size)); clear hb1 hb2)
      | (go_at_call 12; refine (Hs1.out _).mono ?_; rintro e w3 ⟨rfl, rfl⟩)
      | (go_at_call 13; refine (Hs2.out _).mono ?_; rintro e w4 ⟨rfl, rfl⟩)
      | (go_at_call 9; refine (Hwk.out _ (Hst.out.below Hb2.out)).mono ?_; rintro e w5 ⟨rfl, hb5⟩; have Hb5 := Lib.hid (Hb2.out.trans (hb5.mono Hb2.out.size)); clear hb5 Hb2)
      | fail)
    go_ret
    exact ⟨rfl, Hb5.out⟩
end Go.Proofs.YtgcldacpaommiaaDoor
