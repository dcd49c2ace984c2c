/- frames: FrameLists: the walk. -/
import Derived.Test.YtgcldacpaommiaaDoorFrPutsLaw
import Derived.Test.YtgcldacpaommiaaDoorFrRefWrites
import Derived.Test.YtgcldacpaommiaaDoorFrRefSplit
import Derived.Test.YtgcldacpaommiaaDoorFrSame
import Derived.Laws.AppendOwnNone
namespace Go.Proofs.YtgcldacpaommiaaDoor
open Go.RowKit Go.Deep

theorem splits_both (s : ByteArray) (hs : s.size ≤ 1000000) : ∃ (k : Int) (n : Nat) (T : Nat → Wr), n ≤ 1000000 ∧
    (∀ w, Calls Tryd.prog 18 #[.string s] w fun e w' => ∃ a1 cap, e = .returned (.tuple #[.slice a1 n cap, .int .i64 k]) ∧ WrAt w' a1 n T ∧ Below w.heap.size w w') ∧
    (∀ w, Calls Tryd.prog 19 #[.string s] w fun e w' => ∃ a1 cap, e = .returned (.tuple #[.slice a1 n cap, .int .i64 k]) ∧ WrAt w' a1 n T ∧ Below w.heap.size w w') := by
  cases h : goodS s
  · refine ⟨50, 0, wrAt s, by omega, fun w => (split_any s w hs).mono ?_, fun w => (rsplit_any s w hs).mono ?_⟩
    all_goals
      rintro e w' ⟨ho, hb⟩
      rcases ho with ⟨_, rfl⟩ | ⟨h2, _⟩
      · exact ⟨none, 0, rfl, ⟨0, 0, fun h => absurd rfl h, fun j hj => by omega⟩, hb⟩
      · rw [h] at h2; cases h2
  · have hm : manyN s ≤ 1000000 := by
      unfold goodS at h
      have := headS_yes (Bool.and_eq_true_iff.1 h).1
      omega
    refine ⟨0, manyN s, wrAt s, hm, fun w => (split_any s w hs).mono ?_, fun w => (rsplit_any s w hs).mono ?_⟩
    all_goals
      rintro e w' ⟨ho, hb⟩
      rcases ho with ⟨h2, _⟩ | ⟨_, v, rfl, hown⟩
      · rw [h] at h2; cases h2
      · obtain ⟨a1, cap, rfl, hat⟩ := WrAt.of_own hown
        exact ⟨a1, cap, rfl, hat, hb⟩

theorem WrAt.row {w : World} {a1 : Option Addr} {len : Nat} {T : Nat → Wr} (h : WrAt w a1 len T) (hok : ∀ j, j < len → (T j).ok) : WrRow w a1 len T := fun j hj => by
  obtain ⟨sb, so, h1, h2⟩ := h
  exact ⟨hok j hj, sb, so, h1 (by omega), h2 j hj⟩
theorem wcells_one (T : Nat → Wr) (k : Nat) : ∀ u ∈ wcells T k, u.oneCell' = true := by
  induction k with
  | zero => intro u hu; cases hu
  | succ k ih =>
    intro u hu
    rw [wcells] at hu
    rcases List.mem_append.1 hu with h | h
    · exact ih u h
    · simp at h
      rcases h with rfl | rfl <;> rfl
theorem WrAt.news {w : World} {sb so len : Nat} {T : Nat → Wr} (h : ∀ j, j < len → w.cell? ⟨sb, so + j * 2, none⟩ = some (.int .i64 (T j).at') ∧ w.cell? ⟨sb, so + j * 2 + 1, none⟩ = some (.string (T j).data)) :
    ∀ j u, (wcells T len)[j]? = some u → w.cell? ((⟨sb, so, none⟩ : Addr).add j) = some u := fun j u hu => by
  have hj : j < len * 2 := by
    have := (List.getElem?_eq_some_iff.1 hu).1
    rwa [wcells_length] at this
  have ha : (⟨sb, so, none⟩ : Addr).add j = ⟨sb, so + j, none⟩ := by unfold Addr.add; split <;> simp_all
  rw [ha]
  obtain ⟨e1, e2⟩ := wcells_at T len (j / 2) (by omega)
  obtain ⟨k1, k2⟩ := h (j / 2) (by omega)
  rcases Nat.mod_two_eq_zero_or_one j with hm | hm
  · have hj2 : j / 2 * 2 = j := by omega
    rw [hj2] at e1 k1
    rw [k1, ← e1, hu]
  · have hj2 : j / 2 * 2 + 1 = j := by omega
    rw [Nat.add_assoc, hj2] at k2
    rw [hj2] at e2
    rw [k2, ← e2, hu]

/-- append([]api.Write{}, l...): whatever l. -/
theorem wpList_append_copy {w : World} {ops : Array Oper} {rest : List Oper} {o : Oper} {a : Act} {Q : Exit → Act → World → Prop} (hgd : o.guard = none) (s x : Operand)
    (ho : o.op = .call { callee := .builtin .append, args := #[s, x], argTypes := #[44, 44] })
    (B : Nat) (v : Value) (hs : a.eval s = v) (hown : w.ownsRow B 46 2 v 0 []) (a1 : Option Addr) (len cap : Nat) (T : Nat → Wr) (hx : a.eval x = .slice a1 len cap) (hat : WrAt w a1 len T) (hno : a1 = none → len = 0 ∧ cap = 0) (hl : len ≤ 200) (hB : B ≤ w.heap.size)
    (h : ∀ v' w', w'.ownsRow B 46 2 v' len (wcells T len) → w.grownBy w' v.ownBlock → wpList Tryd.prog ops Q rest (a.put o.dst v') w') : wpList Tryd.prog ops Q (o :: rest) a w := by
  obtain ⟨i0, hi, hz0, hz1, hz2⟩ := info_parts w_info
  cases a1 with
  | none =>
    obtain ⟨rfl, rfl⟩ := hno rfl
    exact wpList_append_own_none hgd s x 44 ho B 46 i0 2 Tryd.underlying44 hi v 0 [] hs hown hx (h _ _ hown ⟨rfl, rfl, rfl, Nat.le_refl _, fun _ _ _ => rfl⟩)
  | some ad =>
    refine wpList_append_own _ hgd s x 44 ho B 46 i0 (.agg #[.int .i64 0, .string ⟨#[]⟩]) 2 24 Tryd.underlying44 hi hz0 hz1 hz2 rfl (by decide) v 0 [] hs hown ad len cap (wcells T len) hx (wcells_length T len) ?_ (wcells_one T len) (by unfold maxLen; omega) (by omega) hB ?_
    · by_cases hz : len = 0
      · subst hz
        intro j u hu
        cases hu
      · obtain ⟨sb, so, h1, h2⟩ := hat
        have := h1 hz
        injection this with this
        subst this
        exact WrAt.news h2
    · intro v' w' h2 h3 _
      rw [Nat.zero_add, List.nil_append] at h2
      exact h v' w' h2 h3

set_option maxHeartbeats 2000000 in
set_option maxRecDepth 100000 in
theorem frameLists_big (a1 : Option Addr) (len cap : Nat) (s : ByteArray) (w : World) (hst : Steps w) (hl : len ≤ 9223372036854775807) (hs : s.size ≤ 9223372036854775807) (h : 200 < len ∨ 70000 < s.size) : Calls Tryd.prog 7 #[.slice a1 len cap, .string s] w fun e w' => e = .returned (.bool true) ∧ Below w.heap.size w w' := by
  have hwk := fun w h => wakes_any w h
  have Hwk := Lib.hid hwk
  have Hst := Lib.hid hst
  clear hwk hst
  by_cases h2 : 200 < len
  · clear h
    go_enter Tryd.func7, Tryd.ntmps7
    go_wp2_with (first
      | (go_at_call 9; refine (Hwk.out _ Hst.out).mono ?_; rintro e w1 ⟨rfl, hb1⟩)
      | fail)
    go_ret
    exact ⟨rfl, hb1⟩
  · have h3 : 70000 < s.size := by omega
    clear h
    go_enter Tryd.func7, Tryd.ntmps7
    go_wp2_with (first
      | (go_at_call 9; refine (Hwk.out _ Hst.out).mono ?_; rintro e w1 ⟨rfl, hb1⟩)
      | fail)
    go_ret
    exact ⟨rfl, hb1⟩

set_option maxHeartbeats 4000000 in
set_option maxRecDepth 100000 in
theorem frameLists_go (a1 : Option Addr) (len cap : Nat) (T : Nat → Wr) (s : ByteArray) (w : World) (hst : Steps w) (hl : len ≤ 200) (hs : s.size ≤ 70000) (hT : WrRow w a1 len T) (hno : a1 = none → len = 0 ∧ cap = 0) : Calls Tryd.prog 7 #[.slice a1 len cap, .string s] w fun e w' => e = .returned (.bool true) ∧ Below w.heap.size w w' := by
  have hwk := fun w h => wakes_any w h
  obtain ⟨k5, n5, T5, hn5, hsp, hrsp⟩ := splits_both s (by omega)
  have hW := fun a1 cap w hT => writes_any a1 len cap T w (by omega) hT
  have hRW := fun a1 cap w hT => rwrites_any a1 len cap T w (by omega) hT
  unfold wrRes at hW hRW
  generalize (writesR len T).1 = tx at *
  generalize (writesR len T).2 = ex at *
  have HW := Lib.hid hW
  have HRW := Lib.hid hRW
  clear hW hRW
  have Hwk := Lib.hid hwk
  have Hst := Lib.hid hst
  have HT := Lib.hid hT
  have Hsp := Lib.hid hsp
  have Hrsp := Lib.hid hrsp
  have Hno := Lib.hid hno
  have hlist := fun w => World.ownsRow_made (base := w.heap.size) (e := 46) (size := 2) w #[] 0 (Nat.le_refl _) (by unfold maxLen; omega) rfl
  have Hlist := Lib.hid hlist
  clear hwk hst hT hsp hrsp hno hlist
  go_enter Tryd.func7, Tryd.ntmps7
  go_wp2_with fail
  go_loop [5] (fun i => ∃ k : Nat, k ≤ len ∧ i = .int .i64 k) (fun i => len - (intOf i).toNat)
  case atStart => exact ⟨0, by omega, rfl⟩
  case round =>
    obtain ⟨k, hk, rfl⟩ := hrel
    by_cases hlt : k < len
    · obtain ⟨⟨_, hmx⟩, sb, so, rfl, c0, c1⟩ := HT.out k hlt
      unfold maxLen at hmx
      obtain ⟨x, hx⟩ : ∃ x, x = (T k).data := ⟨_, rfl⟩
      rw [← hx] at c1 hmx
      clear hx c0
      by_cases hbig : 70000 < x.size
      · go_wp2_with (first
          | (go_at_call 9; refine (Hwk.out _ Hst.out).mono ?_; rintro e w1 ⟨rfl, hb1⟩)
          | fail)
        go_ret
        exact ⟨rfl, hb1⟩
      · go_wp2_with fail
        go_round
        case rel => exact ⟨k + 1, by omega, by go_num⟩
        case measure => simp [intOf]; omega
    · obtain rfl : k = len := by omega
      have hat0 := HT.out.at'
      have hb0 := (Below.refl w.heap.size w).alloc (Nat.le_refl _) (.cells #[] 46)
      have Hb0 := Lib.hid hb0
      have Hat0 := Lib.hid (hat0.below hb0)
      have Hok := Lib.hid (fun j hj => (HT.out j hj).1)
      clear hat0 hb0
      go_wp2_with (first
        | (at_builtin; refine wpList_append_copy rfl (.tmp 38) (.tmp 39) rfl w.heap.size _ rfl (Hlist.out w) a1 k cap T rfl Hat0.out Hno.out (by omega) Hb0.out.size ?_; intro v1 w1 hown1 hgrow1; have Hb1 := Lib.hid (Hb0.out.grown hgrow1 Hb0.out.size (fun j hj => ((Hlist.out w).lt j hj).1)); obtain ⟨ain, capin, hv1, hin⟩ := WrAt.of_own hown1; subst hv1; have Hin1 := Lib.hid hin; have Hl1 := Lib.hid (HT.out.at'.below Hb1.out); clear hin hown1 hgrow1 Hat0 Hb0)
        | (go_at_call 16; refine (HW.out ain capin _ (Hin1.out.row Hok.out)).mono ?_; rintro e w2 ⟨rfl, hb2⟩; have Hin2 := Lib.hid (Hin1.out.below hb2); have Hl2 := Lib.hid (Hl1.out.below hb2); have Hb2 := Lib.hid (Hb1.out.trans (hb2.mono Hb1.out.size)); clear hb2 Hin1 Hl1 Hb1)
        | (go_at_call 17; refine (HRW.out a1 cap _ (Hl2.out.row Hok.out)).mono ?_; rintro e w3 ⟨rfl, hb3⟩; have Hin3 := Lib.hid (Hin2.out.below hb3); have Hl3 := Lib.hid (Hl2.out.below hb3); have Hb3 := Lib.hid (Hb2.out.trans (hb3.mono Hb2.out.size)); clear hb3 Hin2 Hl2 Hb2)
        | (go_at_call 18; refine (Hsp.out _).mono ?_; rintro e w4 ⟨as4, cap4, rfl, hs4, hb4⟩; have Hs4 := Lib.hid hs4; have Hin4 := Lib.hid (Hin3.out.below hb4); have Hl4 := Lib.hid (Hl3.out.below hb4); have Hb4 := Lib.hid (Hb3.out.trans (hb4.mono Hb3.out.size)); clear hs4 hb4 Hin3 Hl3 Hb3)
        | (go_at_call 19; refine (Hrsp.out _).mono ?_; rintro e w5 ⟨as5, cap5, rfl, hs5, hb5⟩; have Hs5 := Lib.hid hs5; have Ht5 := Lib.hid (Hs4.out.below hb5); have Hin5 := Lib.hid (Hin4.out.below hb5); have Hl5 := Lib.hid (Hl4.out.below hb5); have Hb5 := Lib.hid (Hb4.out.trans (hb5.mono Hb4.out.size)); clear hs5 hb5 Hin4 Hl4 Hb4 Hs4)
        | (go_at_call 20; have hq := Hb5; refine (same_any as4 as5 n5 cap4 cap5 T5 _ (by omega) Ht5.out Hs5.out).mono ?_; rintro e w6 ⟨rfl, hb6⟩; have Hin6 := Lib.hid (Hin5.out.below hb6); have Hl6 := Lib.hid (Hl5.out.below hb6); have Hb6 := Lib.hid (Hb5.out.trans (hb6.mono Hb5.out.size)); clear hb6 hq Hin5 Hl5 Hb5)
        | (go_at_call 20; have hq := Hb6; refine (same_any ain a1 k capin cap T _ (by omega) Hin6.out Hl6.out).mono ?_; rintro e w7 ⟨rfl, hb7⟩; have Hb7 := Lib.hid (Hb6.out.trans (hb7.mono Hb6.out.size)); clear hb7 hq Hin6 Hl6 Hb6)
        | (go_at_call 9; refine (Hwk.out _ (Hst.out.below Hb7.out)).mono ?_; rintro e w8 ⟨rfl, hb8⟩; have Hb8 := Lib.hid (Hb7.out.trans (hb8.mono Hb7.out.size)); clear hb8 Hb7)
        | fail)
      go_ret
      exact ⟨rfl, Hb8.out⟩
theorem frameLists_any (a1 : Option Addr) (len cap : Nat) (T : Nat → Wr) (s : ByteArray) (w : World) (hst : Steps w) (hl : len ≤ maxLen) (hT : WrRow w a1 len T) (hno : a1 = none → len = 0 ∧ cap = 0) (hs : s.size ≤ 9223372036854775807) : Calls Tryd.prog 7 #[.slice a1 len cap, .string s] w fun e w' => e = .returned (.bool true) ∧ Below w.heap.size w w' := by
  unfold maxLen at hl
  by_cases h : 200 < len ∨ 70000 < s.size
  · exact frameLists_big a1 len cap s w hst (by omega) hs h
  · exact frameLists_go a1 len cap T s w hst (by omega) (by omega) hT hno
end Go.Proofs.YtgcldacpaommiaaDoor
