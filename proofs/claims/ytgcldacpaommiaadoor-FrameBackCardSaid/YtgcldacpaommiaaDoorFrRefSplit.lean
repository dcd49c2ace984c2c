/- frames: a text's writes: the reference's walk. -/
import Derived.Test.YtgcldacpaommiaaDoorFrSplit
namespace Go.Proofs.YtgcldacpaommiaaDoor
open Go.RowKit Go.Deep

set_option maxHeartbeats 4000000 in
set_option maxRecDepth 100000 in
theorem rsplit_head (s : ByteArray) (w : World) (hs : s.size ≤ 1000000) (h : headS s = false) : Calls Tryd.prog 19 #[.string s] w fun e w' => e = .returned (.tuple #[.slice none 0 0, .int .i64 50]) ∧ Below w.heap.size w w' := by
  by_cases h4 : s.size < 4
  · have hb := rbig_no s 0 4 w hs (by omega) (by omega) (by omega) (by omega)
    have Hb := Lib.hid hb
    clear hb h
    go_enter Tryd.func19, Tryd.ntmps19
    go_wp2_with (first
      | (go_at_call 29; refine Hb.out.mono ?_; rintro e w1 ⟨rfl, rfl⟩)
      | fail)
    go_ret2
    exact ⟨rfl, Below.refl _ _⟩
  have hb := rbig_any s 0 4 w hs (by omega) (by omega) (by omega)
  have hl32 := bigN_lt64 (sub s 0 4) (by rw [sub_length _ _ _ (by omega)]; omega)
  have hh : ¬ (manyN s ≤ 80 ∧ s.size = 4 + manyN s * 516) := fun hc => by
    have : headS s = true := by
      unfold headS
      rw [decide_eq_true (show 4 ≤ s.size by omega), decide_eq_true hc.1, decide_eq_true hc.2]
      rfl
    rw [this] at h
    cases h
  unfold manyN at hh
  generalize bigN (sub s 0 4) = m at *
  have Hb := Lib.hid hb
  clear hb h
  by_cases h80 : 80 < m
  · clear hh
    go_enter Tryd.func19, Tryd.ntmps19
    go_wp2_with (first
      | (go_at_call 29; refine Hb.out.mono ?_; rintro e w1 ⟨rfl, rfl⟩; have hb1 := Below.refl w.heap.size w)
      | fail)
    go_ret2
    exact ⟨rfl, hb1⟩
  have hne : ((s.size : Int) != 4 + (m : Int) * 516) = true := by
    simp
    intro e
    exact hh ⟨by omega, by omega⟩
  clear hh
  go_enter Tryd.func19, Tryd.ntmps19
  go_wp2_with (first
    | (go_at_call 29; refine Hb.out.mono ?_; rintro e w1 ⟨rfl, rfl⟩; have hb1 := Below.refl w.heap.size w)
    | fail)
  go_ret2
  exact ⟨rfl, hb1⟩


set_option maxHeartbeats 4000000 in
set_option maxRecDepth 100000 in
theorem rsplit_body (s : ByteArray) (w : World) (hs : s.size ≤ 1000000) (h : headS s = true) : Calls Tryd.prog 19 #[.string s] w fun e w' => SplitOut s w.heap.size e w' ∧ Below w.heap.size w w' := by
  obtain ⟨h4, h80, hsz⟩ := headS_yes h
  obtain ⟨i0, hi, hz0, hz1, hz2⟩ := info_parts w_info
  have hb := fun w => rbig_any s 0 4 w hs (by omega) (by omega) (by omega)
  have hm : bigN (sub s 0 4) = manyN s := rfl
  rw [hm] at hb
  clear hm
  obtain ⟨m, hm⟩ : ∃ m, m = manyN s := ⟨_, rfl⟩
  rw [← hm] at hb h80 hsz
  have hat : ∀ k, k < m → ∀ w, Calls Tryd.prog 29 #[.string s, .int .i64 (4 + (k : Int) * 516), .int .i64 4] w fun e w' => e = .returned (.tuple #[.int .u64 (atN s k : Nat), .bool true]) ∧ w = w' := fun k hk w => by
    have := rbig_any s (4 + k * 516) 4 w hs (by omega) (by omega) (by omega)
    rw [cast_at] at this
    exact this
  have hatl : ∀ k, k < m → atN s k < 4294967296 := fun k hk => by
    have := bigN_lt (sub s (4 + k * 516) 4)
    rw [sub_length _ _ _ (by omega)] at this
    exact this
  have Hh := Lib.hid h
  have Hb := Lib.hid hb
  have Hat := Lib.hid hat
  have Hatl := Lib.hid hatl
  have Hm := Lib.hid hm
  have hq : ((s.size : Int) != 4 + (m : Int) * 516) = false := by
    rw [bne_eq_false_iff_eq]
    omega
  clear hb hat h hatl hm
  have hsz2 : 4 + m * 516 ≤ s.size := by omega
  clear hsz
  go_enter Tryd.func19, Tryd.ntmps19
  go_wp2_with (first
    | (go_at_call 29; refine (Hb.out _).mono ?_; rintro e w1 ⟨rfl, rfl⟩; have Hb1 := Lib.hid (Below.refl w.heap.size w))
    | fail)
  go_loopw [6, 7] (fun l i wr => ∃ k : Nat, k ≤ m ∧ i = .int .i64 k ∧ (∀ j, j < k → atN s j < 8192) ∧ wr.ownsRow w.heap.size 46 2 l k (wcells (wrAt s) k) ∧ Below w.heap.size w wr) (fun _ i _ => m - (intOf i).toNat)
  case atStart => exact ⟨0, by omega, rfl, fun j hj => by omega, World.ownsRow_nil _ _ _ _, Hb1.out⟩
  case round =>
    clear Hb1
    obtain ⟨k, hk, rfl, hgood, hown, hb⟩ := hrel
    have Hgood := Lib.hid hgood
    have Hb1 := Lib.hid hb
    have Hown := Lib.hid hown
    clear hgood hb hown
    by_cases hlt : k < m
    · have ha := Hat.out k hlt
      have hal := Hatl.out k hlt
      obtain ⟨a, haa⟩ : ∃ a, a = atN s k := ⟨_, rfl⟩
      rw [← haa] at ha hal
      have Haa := Lib.hid haa
      have Ha := Lib.hid ha
      clear ha haa
      by_cases hbad : a < 8192
      · go_wp2_with (first
          | (go_at_call 29; refine (Ha.out _).mono ?_; rintro e w2 ⟨rfl, rfl⟩; have Hown2 := Lib.hid Hown.out; have Hb2 := Lib.hid Hb1.out)
          | (at_builtin; refine wpList_append_own _ rfl (.tmp 46) (.tmp 59) 44 rfl w.heap.size 46 i0 (.agg #[.int .i64 0, .string ⟨#[]⟩]) 2 24 Tryd.underlying44 hi hz0 hz1 hz2 rfl (by decide) _ k (wcells (wrAt s) k) rfl (Hown2.out.alloc _) ⟨wr.heap.size, 0, none⟩ 1 1 [.int .i64 (a : Int), .string (s.extract (8 + k * 516) (8 + k * 516 + 512))] rfl rfl (World.news_of_block (cs := #[.int .i64 (a : Int), .string (s.extract (8 + k * 516) (8 + k * 516 + 512))]) (t := 46) (fr := (0, 0)) (heap_alloc_new wr _)) (by simp [Value.oneCell']) (by unfold maxLen; omega) (by omega) (by have := Hb2.out.size; simp; omega) ?_; intro v3 w3 hown3 hgrow3 _)
          | fail)
        have hb3 := (Hb2.out.alloc Hb2.out.size (.cells #[.int .i64 (a : Int), .string (s.extract (8 + k * 516) (8 + k * 516 + 512))] 46)).grown hgrow3 (by have := Hb2.out.size; simp; omega) (fun j hj => (Hown2.out.lt j hj).1)
        have hown4 : w3.ownsRow w.heap.size 46 2 v3 (k + 1) (wcells (wrAt s) (k + 1)) := by
          rw [wcells]
          unfold wrAt
          simp only [← Haa.out, show 4 + (k + 1) * 516 = 8 + k * 516 + 512 by omega]
          exact hown3
        go_roundw
        case rel => exact ⟨k + 1, by omega, by go_num, fun j hj => by
          by_cases e : j = k
          · rw [e, ← Haa.out]; exact hbad
          · exact Hgood.out j (by omega), hown4, hb3⟩
        case measure => simp [intOf]; omega
      · go_wp2_with (first
          | (go_at_call 29; refine (Ha.out _).mono ?_; rintro e w2 ⟨rfl, rfl⟩; have Hb2 := Lib.hid Hb1.out)
          | fail)
        go_ret2
        exact ⟨.inl ⟨goodS_no (by rw [← Hm.out]; exact hlt) (by rw [← Haa.out]; exact hbad), rfl⟩, Hb2.out⟩
    · obtain rfl : k = m := by omega
      go_wp2_with fail
      go_ret2
      refine ⟨.inr ⟨goodS_of Hh.out (by rw [← Hm.out]; exact Hgood.out), _, rfl, ?_⟩, Hb1.out⟩
      rw [← Hm.out]
      exact Hown.out
theorem split_any (s : ByteArray) (w : World) (hs : s.size ≤ 1000000) : Calls Tryd.prog 18 #[.string s] w fun e w' => SplitOut s w.heap.size e w' ∧ Below w.heap.size w w' := by
  cases h : headS s
  · exact (split_head s w hs h).mono fun e w' ⟨he, hb⟩ => ⟨.inl ⟨goodS_head h, he⟩, hb⟩
  · exact split_body s w hs h
theorem rsplit_any (s : ByteArray) (w : World) (hs : s.size ≤ 1000000) : Calls Tryd.prog 19 #[.string s] w fun e w' => SplitOut s w.heap.size e w' ∧ Below w.heap.size w w' := by
  cases h : headS s
  · exact (rsplit_head s w hs h).mono fun e w' ⟨he, hb⟩ => ⟨.inl ⟨goodS_head h, he⟩, hb⟩
  · exact rsplit_body s w hs h
end Go.Proofs.YtgcldacpaommiaaDoor
