/- frames: FrameBack: what was put is got; writes come back as they were: the plain part, and the walk. -/
import Derived.Test.YtgcldacpaommiaaDoorFrListsLaw
import Derived.Test.YtgcldacpaommiaaDoorFrGetsLaw
namespace Go.Proofs.YtgcldacpaommiaaDoor
open Go.RowKit Go.Deep

theorem bodyL_split (T : Nat → Wr) (i : Nat) : ∀ len, i < len → ∃ R, bodyL T len = bodyL T i ++ recL (T i) ++ R := by
  intro len
  induction len with
  | zero => intro h; omega
  | succ n ih =>
    intro h
    by_cases hi : i < n
    · obtain ⟨R, hR⟩ := ih hi
      exact ⟨R ++ recL (T n), by rw [bodyL, hR]; simp⟩
    · obtain rfl : i = n := by omega
      exact ⟨[], by rw [bodyL, List.append_nil]⟩
theorem wcells_congr (T U : Nat → Wr) (n : Nat) (h : ∀ i, i < n → T i = U i) : wcells T n = wcells U n := by
  induction n with
  | zero => rfl
  | succ n ih => rw [wcells, wcells, ih (fun i hi => h i (by omega)), h n (by omega)]

/-- what was written is split as it was. -/
theorem split_text (len : Nat) (T : Nat → Wr) (hl : len ≤ 80) (hg : ∀ j, j < len → badW (T j) = false) :
    ∀ w, Calls Tryd.prog 18 #[.string (S (bigL len 4 ++ bodyL T len))] w fun e w' => ∃ a1 cap, e = .returned (.tuple #[.slice a1 len cap, .int .i64 0]) ∧ WrAt w' a1 len T ∧ Below w.heap.size w w' := by
  obtain ⟨x, hx⟩ : ∃ x, x = S (bigL len 4 ++ bodyL T len) := ⟨_, rfl⟩
  have hd : x.data.toList = bigL len 4 ++ bodyL T len := by rw [hx, S_list]
  have hbl := bodyL_length T len hg
  have hsz : x.size = 4 + len * 516 := by rw [← data_len, hd, List.length_append, bigL_length, hbl]
  have h256 : (256 : Nat) ^ 4 = 4294967296 := by decide
  have hm : manyN x = len := by
    unfold manyN
    rw [sub_mid x [] (bigL len 4) (bodyL T len) 0 4 (by rw [hd]; simp) rfl (bigL_length _ _)]
    exact bigN_put _ 4 (by omega)
  have hi : ∀ i, i < len → atN x i = (T i).at'.toNat ∧ wrAt x i = T i := fun i hi => by
    obtain ⟨R, hR⟩ := bodyL_split T i len hi
    have hb := bodyL_length T i (fun j hj => hg j (by omega))
    obtain ⟨g0, g1, g2⟩ := badW_false (hg i hi)
    have hat : atN x i = (T i).at'.toNat := by
      unfold atN
      rw [sub_mid x (bigL len 4 ++ bodyL T i) (bigL (T i).at'.toNat 4) ((T i).data.data.toList ++ R) (4 + i * 516) 4 (by rw [hd, hR]; simp [recL]) (by rw [List.length_append, bigL_length, hb]) (bigL_length _ _)]
      exact bigN_put _ 4 (by omega)
    refine ⟨hat, ?_⟩
    unfold wrAt
    rw [hat, ext_mid x (bigL len 4 ++ bodyL T i ++ bigL (T i).at'.toNat 4) (T i).data.data.toList R (8 + i * 516) (4 + (i + 1) * 516) (by rw [hd, hR]; simp [recL]) (by rw [List.length_append, List.length_append, bigL_length, bigL_length, hb]; omega) (by rw [data_len, g2]; omega), S_data]
    rw [Int.toNat_of_nonneg g0]
  have hhead : headS x = true := by
    unfold headS
    rw [hm, decide_eq_true (show 4 ≤ x.size by omega), decide_eq_true hl, decide_eq_true hsz]
    rfl
  have hgood : goodS x = true := goodS_of hhead (fun i h => by
    rw [hm] at h
    rw [(hi i h).1]
    have := badW_false (hg i h)
    omega)
  intro w
  rw [← hx]
  refine (split_any x w (by omega)).mono ?_
  rintro e w' ⟨ho, hb⟩
  rcases ho with ⟨h2, _⟩ | ⟨_, v, rfl, hown⟩
  · rw [hgood] at h2; cases h2
  · rw [hm, wcells_congr (wrAt x) T len (fun i h => (hi i h).2)] at hown
    obtain ⟨a1, cap, rfl, hat⟩ := WrAt.of_own hown
    exact ⟨a1, cap, rfl, hat, hb⟩

/-- Writes: a text and why not; where there is one, Split gives the writes back. -/
theorem writes_back (len : Nat) (T : Nat → Wr) (hl : len ≤ 200) : ∃ (tx : ByteArray) (ex : Int), writesR len T = (tx, ex) ∧ (ex ≠ 0 → tx = ⟨#[]⟩) ∧
    (ex = 0 → ∀ w, Calls Tryd.prog 18 #[.string tx] w fun e w' => ∃ a1 cap, e = .returned (.tuple #[.slice a1 len cap, .int .i64 0]) ∧ WrAt w' a1 len T ∧ Below w.heap.size w w') := by
  by_cases h : 80 < len
  · exact ⟨_, _, writesR_many T h, fun _ => rfl, fun h => by cases h⟩
  by_cases hg : ∀ j, j < len → badW (T j) = false
  · exact ⟨_, _, writesR_good T h hg, fun h => absurd rfl h, fun _ => split_text len T (by omega) hg⟩
  · obtain ⟨m, h1, h2, _⟩ := least_bad T len hg
    exact ⟨_, _, writesR_bad T h h1 h2, fun _ => rfl, fun h => by cases h⟩

set_option maxHeartbeats 2000000 in
set_option maxRecDepth 100000 in
theorem frameBack_big (n : Nat) (t b : ByteArray) (a1 : Option Addr) (len cap : Nat) (w : World) (hst : Steps w) (ht : t.size ≤ 9223372036854775807) (hb : b.size ≤ 9223372036854775807) (hl : len ≤ 9223372036854775807) (h : 70000 < t.size ∨ 70000 < b.size ∨ 200 < len) : Calls Tryd.prog 8 #[.int .u64 n, .agg #[.string t, .string b], .slice a1 len cap] w fun e w' => e = .returned (.bool true) ∧ Below w.heap.size w w' := by
  have hwk := fun w h => wakes_any w h
  have Hwk := Lib.hid hwk
  have Hst := Lib.hid hst
  have Hb := Lib.hid ((Below.refl w.heap.size w).alloc (Nat.le_refl _) (.cells #[.string t, .string b] 55))
  clear hwk hst
  have hcase : 70000 < t.size ∨ (t.size ≤ 70000 ∧ 70000 < b.size) ∨ (t.size ≤ 70000 ∧ b.size ≤ 70000 ∧ 200 < len) := by omega
  clear h
  rcases hcase with h | ⟨h1, h2⟩ | ⟨h1, h2, h3⟩
  all_goals
    go_enter Tryd.func8, Tryd.ntmps8
    go_wp2_with fail
    have c0 : (w.alloc (.cells #[.string t, .string b] 55)).cell? ⟨w.heap.size, 0, none⟩ = some (.string t) := by simp [go_sem]
    have c1 : (w.alloc (.cells #[.string t, .string b] 55)).cell? ⟨w.heap.size, 1, none⟩ = some (.string b) := by simp [go_sem]
    generalize w.alloc (.cells #[.string t, .string b] 55) = W at *
    go_quiet (fail)
    have hb2 := below_drewN Hb.out nq
    generalize W.drewN nq = W2 at *
    go_wp2_with (first
      | (go_at_call 9; refine (Hwk.out _ (Hst.out.below hb2)).mono ?_; rintro e w1 ⟨rfl, hb1⟩)
      | fail)
    go_ret
    exact ⟨rfl, hb2.trans (hb1.mono hb2.size)⟩

theorem empty_app (b : ByteArray) : (⟨#[]⟩ : ByteArray) ++ b = b := by
  apply ByteArray.ext
  simp

set_option maxHeartbeats 4000000 in
set_option maxRecDepth 100000 in
theorem frameBack_long (n : Nat) (t b : ByteArray) (a1 : Option Addr) (len cap : Nat) (w : World) (hst : Steps w) (ht : t.size ≤ 70000) (hb : b.size ≤ 70000) (hl : len ≤ 200) (h : 65536 < t.size) : Calls Tryd.prog 8 #[.int .u64 n, .agg #[.string t, .string b], .slice a1 len cap] w fun e w' => e = .returned (.bool true) ∧ Below w.heap.size w w' := by
  have hwk := fun w h => wakes_any w h
  have hp := fun w => putLong_any n t w h (by omega)
  obtain ⟨t5, n5, z5, k5, hg, _⟩ := both_any b (by omega)
  have hea := empty_app b
  have Hwk := Lib.hid hwk
  have Hst := Lib.hid hst
  have Hp := Lib.hid hp
  have Hg := Lib.hid hg
  have Hb := Lib.hid ((Below.refl w.heap.size w).alloc (Nat.le_refl _) (.cells #[.string t, .string b] 55))
  clear hwk hst hp hg
  go_enter Tryd.func8, Tryd.ntmps8
  go_wp2_with fail
  have c0 : (w.alloc (.cells #[.string t, .string b] 55)).cell? ⟨w.heap.size, 0, none⟩ = some (.string t) := by simp [go_sem]
  have c1 : (w.alloc (.cells #[.string t, .string b] 55)).cell? ⟨w.heap.size, 1, none⟩ = some (.string b) := by simp [go_sem]
  generalize w.alloc (.cells #[.string t, .string b] 55) = W at *
  go_quiet (fail)
  have hb2 := below_drewN Hb.out nq
  generalize W.drewN nq = W2 at *
  clear c0 c1
  go_wp2_with (first
    | (go_at_call 10; refine (Hp.out _).mono ?_; rintro e w1 ⟨rfl, rfl⟩)
    | (go_at_call 14; refine (Hg.out _ (Hst.out.below hb2)).mono ?_; rintro e w2 ⟨rfl, hb3⟩; have Hb4 := Lib.hid (hb2.trans (hb3.mono hb2.size)); clear hb3)
    | (go_at_call 9; refine (Hwk.out _ (Hst.out.below Hb4.out)).mono ?_; rintro e w5 ⟨rfl, hb5⟩; have Hb6 := Lib.hid (Hb4.out.trans (hb5.mono Hb4.out.size)); clear hb5)
    | fail)
  go_ret
  exact ⟨rfl, Hb6.out⟩

set_option maxHeartbeats 4000000 in
set_option maxRecDepth 100000 in
theorem frameBack_short (n : Nat) (t b : ByteArray) (a1 : Option Addr) (len cap : Nat) (T : Nat → Wr) (w : World) (hst : Steps w) (hn : n < 18446744073709551616) (ht : t.size ≤ 65536) (hb : b.size ≤ 70000) (hl : len ≤ 200) (hT : WrRow w a1 len T) (hno : a1 = none → len = 0 ∧ cap = 0) : Calls Tryd.prog 8 #[.int .u64 n, .agg #[.string t, .string b], .slice a1 len cap] w fun e w' => e = .returned (.bool true) ∧ Below w.heap.size w w' := by
  have hwk := fun w h => wakes_any w h
  have hp := fun w h => put_frame n t w h ht
  have hfl : (S (frameL n t.data.toList)).size = secs t.size * 512 := by rw [S_size, frameL_length, data_len]
  have hsl := secs_le t.size ht
  have hg := fun w h => get_frame (S (frameL n t.data.toList) ++ b) n t.data.toList b.data.toList (by rw [app_list, S_list]) hn (by rw [data_len]; exact ht) (by
    have : (S (frameL n t.data.toList) ++ b).size = (S (frameL n t.data.toList)).size + b.size := by simp
    omega) w h
  rw [S_data, data_len] at hg
  have hsc := fun w => sectors_any (t.size : Int) w
  rw [secs_eq t.size ht] at hsc
  obtain ⟨tx, ex, hwr, hbad, hgood⟩ := writes_back len T hl
  have hW := fun a1 cap w hT => writes_any a1 len cap T w (by omega) hT
  rw [hwr] at hW
  unfold wrRes at hW
  obtain ⟨z, hz⟩ : ∃ z, z = secs t.size := ⟨_, rfl⟩
  rw [← hz] at hg hsc hfl hsl
  generalize S (frameL n t.data.toList) = fr at *
  have q1 : ((z : Int) * 512 != (fr.size : Int)) = false := by rw [bne_eq_false_iff_eq]; omega
  have q2 : ((z : Int) * 512 != 512 * (z : Int)) = false := by rw [bne_eq_false_iff_eq]; omega
  have hf1 : fr.size ≤ 70000 := by omega
  have hz1 : z ≤ 129 := by omega
  have Hwk := Lib.hid hwk
  have Hst := Lib.hid hst
  have Hp := Lib.hid hp
  have Hg := Lib.hid hg
  have Hsc := Lib.hid hsc
  have HW := Lib.hid hW
  have HT := Lib.hid hT
  have Hno := Lib.hid hno
  have hlist := fun (B : Nat) (w : World) (h : B ≤ w.heap.size) => World.ownsRow_made (base := B) (e := 46) (size := 2) w #[] 0 h (by unfold maxLen; omega) rfl
  have Hlist := Lib.hid hlist
  have Hb := Lib.hid ((Below.refl w.heap.size w).alloc (Nat.le_refl _) (.cells #[.string t, .string b] 55))
  clear hwk hst hp hg hsc hW hT hno hlist hz hfl hsl hwr hn
  by_cases hex : ex = 0
  · subst hex
    have hsp := hgood rfl
    have Hsp := Lib.hid hsp
    clear hsp hgood hbad
    go_enter Tryd.func8, Tryd.ntmps8
    go_wp2_with fail
    have c0 : (w.alloc (.cells #[.string t, .string b] 55)).cell? ⟨w.heap.size, 0, none⟩ = some (.string t) := by simp [go_sem]
    have c1 : (w.alloc (.cells #[.string t, .string b] 55)).cell? ⟨w.heap.size, 1, none⟩ = some (.string b) := by simp [go_sem]
    generalize w.alloc (.cells #[.string t, .string b] 55) = W at *
    go_quiet (fail)
    have hb2 := below_drewN Hb.out nq
    generalize W.drewN nq = W2 at *
    clear c0 c1
    go_wp2_with (first
      | (go_at_call 10; refine (Hp.out _ (Hst.out.below hb2)).mono ?_; rintro e w1 ⟨rfl, hb1⟩; have Hb1 := Lib.hid (hb2.trans (hb1.mono hb2.size)); clear hb1)
      | (go_at_call 14; refine (Hg.out _ (Hst.out.below Hb1.out)).mono ?_; rintro e w2 ⟨rfl, hb3⟩; have Hb3 := Lib.hid (Hb1.out.trans (hb3.mono Hb1.out.size)); have Hb3a := Lib.hid (Hb3.out.alloc Hb3.out.size (.cells #[] 46)); have Hl3 := Lib.hid (HT.out.at'.below Hb3a.out); clear hb3)
      | (go_at_call 12; refine (Hsc.out _).mono ?_; rintro e w3 ⟨rfl, rfl⟩)
      | (at_builtin; refine wpList_append_copy rfl (.tmp 91) (.tmp 92) rfl w.heap.size _ rfl (Hlist.out _ _ Hb3.out.size) a1 len cap T rfl Hl3.out Hno.out (by omega) Hb3a.out.size ?_; intro v4 w4 hown4 hgrow4; have Hb4 := Lib.hid (Hb3a.out.grown hgrow4 Hb3a.out.size (fun j hj => ((Hlist.out _ _ Hb3.out.size).lt j hj).1)); obtain ⟨ain, capin, hv4, hin⟩ := WrAt.of_own hown4; subst hv4; have Hin := Lib.hid hin; have Hl4 := Lib.hid (HT.out.at'.below Hb4.out); clear hin hown4 hgrow4 Hl3 Hb3a Hb3)
      | (go_at_call 16; refine (HW.out ain capin _ (Hin.out.row (fun j hj => (HT.out j hj).1))).mono ?_; rintro e w5 ⟨rfl, hb5⟩; have Hl4 := Lib.hid (Hl4.out.below hb5); have Hb5 := Lib.hid (Hb4.out.trans (hb5.mono Hb4.out.size)); clear hb5 Hb4 Hin)
      | (go_at_call 18; refine (Hsp.out _).mono ?_; rintro e w5 ⟨as5, cap5, rfl, hs5, hb5⟩; have Hs5 := Lib.hid hs5; have Hl5 := Lib.hid (Hl4.out.below hb5); have Hb6 := Lib.hid (Hb5.out.trans (hb5.mono Hb5.out.size)); clear hs5 hb5 Hl4 Hb5)
      | (go_at_call 20; refine (same_any as5 a1 len cap5 cap T _ (by omega) Hs5.out Hl5.out).mono ?_; rintro e w6 ⟨rfl, hb6⟩; have Hb7 := Lib.hid (Hb6.out.trans (hb6.mono Hb6.out.size)); clear hb6)
      | (go_at_call 9; refine (Hwk.out _ (Hst.out.below Hb7.out)).mono ?_; rintro e w8 ⟨rfl, hb8⟩; have Hb8 := Lib.hid (Hb7.out.trans (hb8.mono Hb7.out.size)); clear hb8 Hb7)
      | fail)
    go_ret
    exact ⟨rfl, Hb8.out⟩
  · obtain rfl := hbad hex
    have hex2 : (ex != 0) = true := by simpa using hex
    clear hgood hbad hex
    go_enter Tryd.func8, Tryd.ntmps8
    go_wp2_with fail
    have c0 : (w.alloc (.cells #[.string t, .string b] 55)).cell? ⟨w.heap.size, 0, none⟩ = some (.string t) := by simp [go_sem]
    have c1 : (w.alloc (.cells #[.string t, .string b] 55)).cell? ⟨w.heap.size, 1, none⟩ = some (.string b) := by simp [go_sem]
    generalize w.alloc (.cells #[.string t, .string b] 55) = W at *
    go_quiet (fail)
    have hb2 := below_drewN Hb.out nq
    generalize W.drewN nq = W2 at *
    clear c0 c1
    go_wp2_with (first
      | (go_at_call 10; refine (Hp.out _ (Hst.out.below hb2)).mono ?_; rintro e w1 ⟨rfl, hb1⟩; have Hb1 := Lib.hid (hb2.trans (hb1.mono hb2.size)); clear hb1)
      | (go_at_call 14; refine (Hg.out _ (Hst.out.below Hb1.out)).mono ?_; rintro e w2 ⟨rfl, hb3⟩; have Hb3 := Lib.hid (Hb1.out.trans (hb3.mono Hb1.out.size)); have Hb3a := Lib.hid (Hb3.out.alloc Hb3.out.size (.cells #[] 46)); have Hl3 := Lib.hid (HT.out.at'.below Hb3a.out); clear hb3)
      | (go_at_call 12; refine (Hsc.out _).mono ?_; rintro e w3 ⟨rfl, rfl⟩)
      | (at_builtin; refine wpList_append_copy rfl (.tmp 91) (.tmp 92) rfl w.heap.size _ rfl (Hlist.out _ _ Hb3.out.size) a1 len cap T rfl Hl3.out Hno.out (by omega) Hb3a.out.size ?_; intro v4 w4 hown4 hgrow4; have Hb4 := Lib.hid (Hb3a.out.grown hgrow4 Hb3a.out.size (fun j hj => ((Hlist.out _ _ Hb3.out.size).lt j hj).1)); obtain ⟨ain, capin, hv4, hin⟩ := WrAt.of_own hown4; subst hv4; have Hin := Lib.hid hin; have Hl4 := Lib.hid (HT.out.at'.below Hb4.out); clear hin hown4 hgrow4 Hl3 Hb3a Hb3)
      | (go_at_call 16; refine (HW.out ain capin _ (Hin.out.row (fun j hj => (HT.out j hj).1))).mono ?_; rintro e w5 ⟨rfl, hb5⟩; have Hl4 := Lib.hid (Hl4.out.below hb5); have Hb5 := Lib.hid (Hb4.out.trans (hb5.mono Hb4.out.size)); clear hb5 Hb4 Hin)
      | (go_at_call 9; refine (Hwk.out _ (Hst.out.below Hb5.out)).mono ?_; rintro e w8 ⟨rfl, hb8⟩; have Hb8 := Lib.hid (Hb5.out.trans (hb8.mono Hb5.out.size)); clear hb8)
      | fail)
    go_ret
    exact ⟨rfl, Hb8.out⟩
theorem frameBack_any (n : Nat) (t b : ByteArray) (a1 : Option Addr) (len cap : Nat) (T : Nat → Wr) (w : World) (hst : Steps w) (hn : n < 18446744073709551616) (ht : t.size ≤ 9223372036854775807) (hb : b.size ≤ 9223372036854775807) (hl : len ≤ maxLen) (hT : WrRow w a1 len T) (hno : a1 = none → len = 0 ∧ cap = 0) : Calls Tryd.prog 8 #[.int .u64 n, .agg #[.string t, .string b], .slice a1 len cap] w fun e w' => e = .returned (.bool true) ∧ Below w.heap.size w w' := by
  unfold maxLen at hl
  by_cases h : 70000 < t.size ∨ 70000 < b.size ∨ 200 < len
  · exact frameBack_big n t b a1 len cap w hst ht hb (by omega) h
  by_cases h2 : 65536 < t.size
  · exact frameBack_long n t b a1 len cap w hst (by omega) (by omega) (by omega) h2
  · exact frameBack_short n t b a1 len cap T w hst hn (by omega) (by omega) (by omega) hT hno
end Go.Proofs.YtgcldacpaommiaaDoor
