/- frames: Put, the program's and the reference's: the walks. -/
import Derived.Test.YtgcldacpaommiaaDoorFrRefPut
namespace Go.Proofs.YtgcldacpaommiaaDoor
open Go.RowKit Go.Deep

def mark : ByteArray := ⟨#[72, 71, 70, 82]⟩
theorem digest_length (l : List UInt8) : (digest l).length = 4 := litL_length _ _
theorem app_list (a b : ByteArray) : (a ++ b).data.toList = a.data.toList ++ b.data.toList := by simp
theorem head_list (n : Nat) (t : ByteArray) : (mark ++ S (bigL n 8) ++ S (bigL t.size 4)).data.toList = headL n t.data.toList := by
  rw [app_list, app_list, S_list, S_list]; unfold headL; rw [data_len]; rfl
theorem frame_list (n : Nat) (t : ByteArray) : (mark ++ S (bigL n 8) ++ S (bigL t.size 4) ++ S (digest (headL n t.data.toList)) ++ t ++ S (digest t.data.toList)).data.toList = headL n t.data.toList ++ digest (headL n t.data.toList) ++ t.data.toList ++ digest t.data.toList := by
  rw [app_list, app_list, app_list, head_list, S_list, S_list]
theorem ret_put {a b : ByteArray} {k : IntKind} {x : Int} (h : a = b) : Ending.returned (.tuple #[.string a, .int k x]) = .returned (.tuple #[.string b, .int k x]) := by rw [h]

set_option maxHeartbeats 2000000 in
set_option maxRecDepth 100000 in
theorem putLong_any (n : Nat) (t : ByteArray) (w : World) (ht : 65536 < t.size) (hs : t.size ≤ 9223372036854775807) : Calls Tryd.prog 10 #[.int .u64 n, .string t] w fun e w' => e = .returned (.tuple #[.string ⟨#[]⟩, .int .i64 2]) ∧ w = w' := by
  go_enter Tryd.func10, Tryd.ntmps10
  go_wp2_with fail
  go_ret2
  exact ⟨rfl, rfl⟩
set_option maxHeartbeats 2000000 in
set_option maxRecDepth 100000 in
theorem rputLong_any (n : Nat) (t : ByteArray) (w : World) (ht : 65536 < t.size) (hs : t.size ≤ 9223372036854775807) : Calls Tryd.prog 11 #[.int .u64 n, .string t] w fun e w' => e = .returned (.tuple #[.string ⟨#[]⟩, .int .i64 2]) ∧ w = w' := by
  go_enter Tryd.func11, Tryd.ntmps11
  go_wp2_with fail
  go_ret2
  exact ⟨rfl, rfl⟩

set_option maxHeartbeats 2000000 in
set_option maxRecDepth 100000 in
theorem put_frame (n : Nat) (t : ByteArray) (w : World) (hst : Steps w) (ht : t.size ≤ 65536) : Calls Tryd.prog 10 #[.int .u64 n, .string t] w fun e w' => e = .returned (.tuple #[.string (S (frameL n t.data.toList)), .int .i64 0]) ∧ Below w.heap.size w w' := by
  have hf1 := head_list n t
  have hf2 := frame_list n t
  have hz1 : (S (bigL n 8)).size = 8 := by rw [S_size, bigL_length]
  have hz2 : (S (bigL t.size 4)).size = 4 := by rw [S_size, bigL_length]
  have hz3 : (S (digest (headL n t.data.toList))).size = 4 := by rw [S_size, digest_length]
  have hz4 : (S (digest t.data.toList)).size = 4 := by rw [S_size, digest_length]
  have hp8 := fun w => putBig_any n 8 w (by omega) (by omega)
  have hp4 := fun w => putBig_any t.size 4 w (by omega) (by omega)
  have hmz : mark.size = 4 := rfl
  have hd1 := fun w h => digest_any (mark ++ S (bigL n 8) ++ S (bigL t.size 4)) w h (by simp [hz1, hz2, hmz])
  have hd2 := fun w h => digest_any t w h (by omega)
  have hpad := fun w => pad_any (mark ++ S (bigL n 8) ++ S (bigL t.size 4) ++ S (digest (headL n t.data.toList)) ++ t ++ S (digest t.data.toList)) w (by simp [hz1, hz2, hz3, hz4, hmz]; omega)
  rw [hf1] at hd1
  rw [hf2] at hpad
  have hfr : frameL n t.data.toList = padL (headL n t.data.toList ++ digest (headL n t.data.toList) ++ t.data.toList ++ digest t.data.toList) := rfl
  rw [hfr]
  clear hfr hf1 hf2
  unfold mark at *
  generalize S (bigL n 8) = b8 at *
  generalize S (bigL t.size 4) = b4 at *
  generalize S (digest (headL n t.data.toList)) = d1 at *
  generalize S (digest t.data.toList) = d2 at *
  generalize S (padL (headL n t.data.toList ++ digest (headL n t.data.toList) ++ t.data.toList ++ digest t.data.toList)) = fr at *
  have Hp8 := Lib.hid hp8
  have Hp4 := Lib.hid hp4
  have Tok : Hid (1 = 1) := rfl
  have Hd1 := Lib.hid hd1
  have Hd2 := Lib.hid hd2
  have Hpad := Lib.hid hpad
  have Hst := Lib.hid hst
  clear hp8 hp4 hd1 hd2 hpad hst
  go_enter Tryd.func10, Tryd.ntmps10
  go_wp2_with (first
    | (go_at_call 21; have hq := Tok; refine (Hp8.out _).mono ?_; rintro e w1 ⟨rfl, hb1⟩; clear hq Tok)
    | (go_at_call 21; refine (Hp4.out _).mono ?_; rintro e w2 ⟨rfl, hb2⟩; have Hb2 := Lib.hid (hb1.trans (hb2.mono hb1.size)); clear hb1 hb2)
    | (go_at_call 23; refine (Hd1.out _ (Hst.out.below Hb2.out)).mono ?_; rintro e w3 ⟨rfl, hb3⟩; have Hb3 := Lib.hid (Hb2.out.trans (hb3.mono Hb2.out.size)); clear hb3 Hb2)
    | (go_at_call 23; refine (Hd2.out _ (Hst.out.below Hb3.out)).mono ?_; rintro e w4 ⟨rfl, hb4⟩; have Hb4 := Lib.hid (Hb3.out.trans (hb4.mono Hb3.out.size)); clear hb4 Hb3)
    | (go_at_call 22; refine (Hpad.out _).mono ?_; rintro e w5 ⟨rfl, hb5⟩; have Hb5 := Lib.hid (Hb4.out.trans (hb5.mono Hb4.out.size)); clear hb5 Hb4)
    | fail)
  go_ret2
  exact ⟨rfl, Hb5.out⟩
set_option maxHeartbeats 2000000 in
set_option maxRecDepth 100000 in
theorem rput_frame (n : Nat) (t : ByteArray) (w : World) (hn : n < 18446744073709551616) (ht : t.size ≤ 65536) : Calls Tryd.prog 11 #[.int .u64 n, .string t] w fun e w' => e = .returned (.tuple #[.string (S (frameL n t.data.toList)), .int .i64 0]) ∧ Below w.heap.size w w' := by
  have hf1 := head_list n t
  have hf2 := frame_list n t
  have hz1 : (S (bigL n 8)).size = 8 := by rw [S_size, bigL_length]
  have hz2 : (S (bigL t.size 4)).size = 4 := by rw [S_size, bigL_length]
  have hz3 : (S (digest (headL n t.data.toList))).size = 4 := by rw [S_size, digest_length]
  have hz4 : (S (digest t.data.toList)).size = 4 := by rw [S_size, digest_length]
  have hp8 := fun w => rputBig_any n 8 w (by omega) (by omega) hn
  have hp4 := fun w => rputBig_any t.size 4 w (by omega) (by omega) (by omega)
  clear hn
  have hmz : mark.size = 4 := rfl
  have hd1 := fun w => rdigest_any (mark ++ S (bigL n 8) ++ S (bigL t.size 4)) w (by simp [hz1, hz2, hmz])
  have hd2 := fun w => rdigest_any t w (by omega)
  have hpad := fun w => rpad_any (mark ++ S (bigL n 8) ++ S (bigL t.size 4) ++ S (digest (headL n t.data.toList)) ++ t ++ S (digest t.data.toList)) w (by simp [hz1, hz2, hz3, hz4, hmz]; omega)
  rw [hf1] at hd1
  rw [hf2] at hpad
  have hfr : frameL n t.data.toList = padL (headL n t.data.toList ++ digest (headL n t.data.toList) ++ t.data.toList ++ digest t.data.toList) := rfl
  rw [hfr]
  clear hfr hf1 hf2
  unfold mark at *
  generalize S (bigL n 8) = b8 at *
  generalize S (bigL t.size 4) = b4 at *
  generalize S (digest (headL n t.data.toList)) = d1 at *
  generalize S (digest t.data.toList) = d2 at *
  generalize S (padL (headL n t.data.toList ++ digest (headL n t.data.toList) ++ t.data.toList ++ digest t.data.toList)) = fr at *
  have Hp8 := Lib.hid hp8
  have Hp4 := Lib.hid hp4
  have Tok : Hid (1 = 1) := rfl
  have Hd1 := Lib.hid hd1
  have Hd2 := Lib.hid hd2
  have Hpad := Lib.hid hpad
  clear hp8 hp4 hd1 hd2 hpad
  go_enter Tryd.func11, Tryd.ntmps11
  go_wp2_with (first
    | (go_at_call 24; have hq := Tok; refine (Hp8.out _).mono ?_; rintro e w1 ⟨rfl, hb1⟩; clear hq Tok)
    | (go_at_call 24; refine (Hp4.out _).mono ?_; rintro e w2 ⟨rfl, hb2⟩; have Hb2 := Lib.hid (hb1.trans (hb2.mono hb1.size)); clear hb1 hb2)
    | (go_at_call 26; have hq := Hb2.out; refine (Hd1.out _).mono ?_; rintro e w3 ⟨rfl, hb3⟩; have Hb3 := Lib.hid (Hb2.out.trans (hb3.mono Hb2.out.size)); clear hb3 Hb2 hq)
    | (go_at_call 26; have hq := Hb3.out; refine (Hd2.out _).mono ?_; rintro e w4 ⟨rfl, hb4⟩; have Hb4 := Lib.hid (Hb3.out.trans (hb4.mono Hb3.out.size)); clear hb4 Hb3 hq)
    | (go_at_call 25; refine (Hpad.out _).mono ?_; rintro e w5 ⟨rfl, hb5⟩; have Hb5 := Lib.hid (Hb4.out.trans (hb5.mono Hb4.out.size)); clear hb5 Hb4)
    | fail)
  go_ret2
  exact ⟨rfl, Hb5.out⟩
end Go.Proofs.YtgcldacpaommiaaDoor
