/- frames: a text's writes: the plain list, and the program's walk. -/
import Derived.Test.YtgcldacpaommiaaDoorFrBig
import Derived.Test.YtgcldacpaommiaaDoorFrMem
import Derived.Maps.AppendAt
import Derived.Deep.AppendLies
namespace Go.Proofs.YtgcldacpaommiaaDoor
open Go.RowKit Go.Deep

theorem w_info : (Tryd.prog.info? 46).map (fun i => (i.zero, i.size, i.bytes)) = some (some (.agg #[.int .i64 0, .string ⟨#[]⟩]), 2, 24) := by kernel_rfl

def manyN (s : ByteArray) : Nat := bigN (sub s 0 4)
def atN (s : ByteArray) (i : Nat) : Nat := bigN (sub s (4 + i * 516) 4)
def wrAt (s : ByteArray) (i : Nat) : Wr := ⟨(atN s i : Nat), s.extract (8 + i * 516) (4 + (i + 1) * 516)⟩
def headS (s : ByteArray) : Bool := decide (4 ≤ s.size) && (decide (manyN s ≤ 80) && decide (s.size = 4 + manyN s * 516))
def goodS (s : ByteArray) : Bool := headS s && (List.range (manyN s)).all fun i => decide (atN s i < 8192)
def wcells (T : Nat → Wr) : Nat → List Value
  | 0 => []
  | k + 1 => wcells T k ++ [.int .i64 (T k).at', .string (T k).data]
theorem wcells_length (T : Nat → Wr) (k : Nat) : (wcells T k).length = k * 2 := by
  induction k with
  | zero => rfl
  | succ k ih => rw [wcells, List.length_append, ih]; simp; omega
theorem wcells_at (T : Nat → Wr) (k j : Nat) (hj : j < k) : (wcells T k)[j * 2]? = some (.int .i64 (T j).at') ∧ (wcells T k)[j * 2 + 1]? = some (.string (T j).data) := by
  induction k with
  | zero => omega
  | succ k ih =>
    rw [wcells]
    by_cases h : j < k
    · rw [List.getElem?_append_left (by rw [wcells_length]; omega), List.getElem?_append_left (by rw [wcells_length]; omega)]
      exact ih h
    · obtain rfl : j = k := by omega
      rw [List.getElem?_append_right (by rw [wcells_length]; omega), List.getElem?_append_right (by rw [wcells_length]; omega), wcells_length]
      simp
theorem headS_yes {s : ByteArray} (h : headS s = true) : 4 ≤ s.size ∧ manyN s ≤ 80 ∧ s.size = 4 + manyN s * 516 := by simpa [headS] using h
theorem goodS_of {s : ByteArray} (h : headS s = true) (ha : ∀ i, i < manyN s → atN s i < 8192) : goodS s = true := by
  unfold goodS
  rw [h, Bool.true_and]
  exact List.all_eq_true.2 fun i hi => decide_eq_true (ha i (List.mem_range.1 hi))
theorem goodS_no {s : ByteArray} {k : Nat} (hk : k < manyN s) (ha : ¬ atN s k < 8192) : goodS s = false := by
  unfold goodS
  rw [Bool.and_eq_false_iff]
  right
  rw [Bool.eq_false_iff]
  intro h
  exact ha (of_decide_eq_true (List.all_eq_true.1 h k (List.mem_range.2 hk)))
theorem goodS_head {s : ByteArray} (h : headS s = false) : goodS s = false := by unfold goodS; rw [h]; rfl

/-- what Split leaves. -/
def SplitOut (s : ByteArray) (B : Nat) (e : Ending) (w : World) : Prop := (goodS s = false ∧ e = .returned (.tuple #[.slice none 0 0, .int .i64 50])) ∨ (goodS s = true ∧ ∃ v, e = .returned (.tuple #[v, .int .i64 0]) ∧ w.ownsRow B 46 2 v (manyN s) (wcells (wrAt s) (manyN s)))

theorem own_stay {w w1 : World} {base : Nat} {e : TypeId} {size n : Nat} {v : Value} {xs : List Value} (h : w.ownsRow base e size v n xs) (hb : Below w.heap.size w w1) : w1.ownsRow base e size v n xs :=
  h.kept (row := none) ⟨hb.os, hb.tape, hb.output, hb.size, fun k hk _ => hb.block k hk⟩ (by cases v.ownBlock <;> simp)

set_option maxHeartbeats 4000000 in
set_option maxRecDepth 100000 in
theorem split_head (s : ByteArray) (w : World) (hs : s.size ≤ 1000000) (h : headS s = false) : Calls Tryd.prog 18 #[.string s] w fun e w' => e = .returned (.tuple #[.slice none 0 0, .int .i64 50]) ∧ Below w.heap.size w w' := by
  by_cases h4 : s.size < 4
  · have hb := big_no s 0 4 w hs (by omega) (by omega) (by omega) (by omega)
    have Hb := Lib.hid hb
    clear hb h
    go_enter Tryd.func18, Tryd.ntmps18
    go_wp2_with (first
      | (go_at_call 32; refine Hb.out.mono ?_; rintro e w1 ⟨rfl, rfl⟩)
      | fail)
    go_ret2
    exact ⟨rfl, Below.refl _ _⟩
  have hb := big_any s 0 4 w hs (by omega) (by omega) (by omega)
  have hl32 := bigN_lt64 (sub s 0 4) (by rw [sub_length _ _ _ (by omega)]; omega)
  have hh : ¬ (manyN s ≤ 80 ∧ s.size = 4 + manyN s * 516) := fun hc => by
    have : headS s = true := by
      unfold headS
      rw [decide_eq_true (show 4 ≤ s.size by omega), decide_eq_true hc.1, decide_eq_true hc.2]
      rfl
    rw [this] at h
    cases h
  unfold manyN at hh
  generalize bigN (sub s 0 4) = m at *
  have Hb := Lib.hid hb
  clear hb h
  by_cases h80 : 80 < m
  · clear hh
    go_enter Tryd.func18, Tryd.ntmps18
    go_wp2_with (first
      | (go_at_call 32; refine Hb.out.mono ?_; rintro e w1 ⟨rfl, hb1⟩)
      | fail)
    go_ret2
    exact ⟨rfl, hb1⟩
  have hne : ((s.size : Int) != 4 + (m : Int) * 516) = true := by
    simp
    intro e
    exact hh ⟨by omega, by omega⟩
  clear hh
  go_enter Tryd.func18, Tryd.ntmps18
  go_wp2_with (first
    | (go_at_call 32; refine Hb.out.mono ?_; rintro e w1 ⟨rfl, hb1⟩)
    | fail)
  go_ret2
  exact ⟨rfl, hb1⟩

theorem cast_at (k c : Nat) : ((c + k * 516 : Nat) : Int) = (c : Int) + (k : Int) * 516 := by omega

set_option maxHeartbeats 4000000 in
set_option maxRecDepth 100000 in
theorem split_body (s : ByteArray) (w : World) (hs : s.size ≤ 1000000) (h : headS s = true) : Calls Tryd.prog 18 #[.string s] w fun e w' => SplitOut s w.heap.size e w' ∧ Below w.heap.size w w' := by
  obtain ⟨h4, h80, hsz⟩ := headS_yes h
  obtain ⟨i0, hi, hz0, hz1, hz2⟩ := info_parts w_info
  have hb := fun w => big_any s 0 4 w hs (by omega) (by omega) (by omega)
  have hm : bigN (sub s 0 4) = manyN s := rfl
  rw [hm] at hb
  clear hm
  obtain ⟨m, hm⟩ : ∃ m, m = manyN s := ⟨_, rfl⟩
  rw [← hm] at hb h80 hsz
  have hat : ∀ k, k < m → ∀ w, Calls Tryd.prog 32 #[.string s, .int .i64 (4 + (k : Int) * 516), .int .i64 4] w fun e w' => e = .returned (.tuple #[.int .u64 (atN s k : Nat), .bool true]) ∧ Below w.heap.size w w' := fun k hk w => by
    have := big_any s (4 + k * 516) 4 w hs (by omega) (by omega) (by omega)
    rw [cast_at] at this
    exact this
  have hatl : ∀ k, k < m → atN s k < 4294967296 := fun k hk => by
    have := bigN_lt (sub s (4 + k * 516) 4)
    rw [sub_length _ _ _ (by omega)] at this
    exact this
  have Hh := Lib.hid h
  have Hb := Lib.hid hb
  have Hat := Lib.hid hat
  have Hatl := Lib.hid hatl
  have Hm := Lib.hid hm
  have hq : ((s.size : Int) != 4 + (m : Int) * 516) = false := by
    rw [bne_eq_false_iff_eq]
    omega
  clear hb hat h hatl hm
  have hsz2 : 4 + m * 516 ≤ s.size := by omega
  clear hsz
  go_enter Tryd.func18, Tryd.ntmps18
  go_wp2_with (first
    | (go_at_call 32; refine (Hb.out _).mono ?_; rintro e w1 ⟨rfl, hb1⟩; have Hb1 := Lib.hid hb1; clear hb1)
    | fail)
  go_loopw [6, 32] (fun l i wr => ∃ k : Nat, k ≤ m ∧ i = .int .i64 k ∧ (∀ j, j < k → atN s j < 8192) ∧ wr.ownsRow w.heap.size 46 2 l k (wcells (wrAt s) k) ∧ Below w.heap.size w wr) (fun _ i _ => m - (intOf i).toNat)
  case atStart => exact ⟨0, by omega, rfl, fun j hj => by omega, World.ownsRow_nil _ _ _ _, Hb1.out⟩
  case round =>
    clear Hb1
    obtain ⟨k, hk, rfl, hgood, hown, hb⟩ := hrel
    have Hgood := Lib.hid hgood
    have Hb1 := Lib.hid hb
    have Hown := Lib.hid hown
    clear hgood hb hown
    by_cases hlt : k < m
    · have ha := Hat.out k hlt
      have hal := Hatl.out k hlt
      obtain ⟨a, haa⟩ : ∃ a, a = atN s k := ⟨_, rfl⟩
      rw [← haa] at ha hal
      have Haa := Lib.hid haa
      have Ha := Lib.hid ha
      clear ha haa
      by_cases hbad : a < 8192
      · go_wp2_with (first
          | (go_at_call 32; refine (Ha.out _).mono ?_; rintro e w2 ⟨rfl, hb2⟩; have Hown2 := Lib.hid (own_stay Hown.out hb2); have Hb2 := Lib.hid (Hb1.out.trans (hb2.mono Hb1.out.size)); clear hb2)
          | (at_builtin; refine wpList_append_own _ rfl (.tmp 45) (.tmp 58) 44 rfl w.heap.size 46 i0 (.agg #[.int .i64 0, .string ⟨#[]⟩]) 2 24 Tryd.underlying44 hi hz0 hz1 hz2 rfl (by decide) _ k (wcells (wrAt s) k) rfl (Hown2.out.alloc _) ⟨w2.heap.size, 0, none⟩ 1 1 [.int .i64 (a : Int), .string (s.extract (8 + k * 516) (4 + (k + 1) * 516))] rfl rfl (World.news_of_block (cs := #[.int .i64 (a : Int), .string (s.extract (8 + k * 516) (4 + (k + 1) * 516))]) (t := 46) (fr := (0, 0)) (heap_alloc_new w2 _)) (by simp [Value.oneCell']) (by unfold maxLen; omega) (by omega) (by have := Hb2.out.size; simp; omega) ?_; intro v3 w3 hown3 hgrow3 _)
          | fail)
        have hb3 := (Hb2.out.alloc Hb2.out.size (.cells #[.int .i64 (a : Int), .string (s.extract (8 + k * 516) (4 + (k + 1) * 516))] 46)).grown hgrow3 (by have := Hb2.out.size; simp; omega) (fun j hj => (Hown2.out.lt j hj).1)
        have hown4 : w3.ownsRow w.heap.size 46 2 v3 (k + 1) (wcells (wrAt s) (k + 1)) := by
          rw [wcells]
          unfold wrAt
          simp only [← Haa.out]
          exact hown3
        go_roundw
        case rel => exact ⟨k + 1, by omega, by go_num, fun j hj => by
          by_cases e : j = k
          · rw [e, ← Haa.out]; exact hbad
          · exact Hgood.out j (by omega), hown4, hb3⟩
        case measure => simp [intOf]; omega
      · go_wp2_with (first
          | (go_at_call 32; refine (Ha.out _).mono ?_; rintro e w2 ⟨rfl, hb2⟩; have Hb2 := Lib.hid (Hb1.out.trans (hb2.mono Hb1.out.size)); clear hb2)
          | fail)
        go_ret2
        exact ⟨.inl ⟨goodS_no (by rw [← Hm.out]; exact hlt) (by rw [← Haa.out]; exact hbad), rfl⟩, Hb2.out⟩
    · obtain rfl : k = m := by omega
      go_wp2_with fail
      go_ret2
      refine ⟨.inr ⟨goodS_of Hh.out (by rw [← Hm.out]; exact Hgood.out), _, rfl, ?_⟩, Hb1.out⟩
      rw [← Hm.out]
      exact Hown.out
end Go.Proofs.YtgcldacpaommiaaDoor
