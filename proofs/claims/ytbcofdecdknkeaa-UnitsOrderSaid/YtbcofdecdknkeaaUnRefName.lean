/- the reference's Name, and Mod: what they answer. -/
import Derived.Test.YtbcofdecdknkeaaUnNames
namespace Go.Proofs.Ytbcofdecdknkeaa
open Go.RowKit Go.Deep

def letB (x : Nat) : Bool := decide (97 ≤ x) && decide (x ≤ 122)
def digB (x : Nat) : Bool := decide (48 ≤ x) && decide (x ≤ 57)
theorem okc_parts (x : Nat) : okc x = (letB x || digB x || x == 46 || x == 45 || x == 58) := by simp [okc, letB, digB]

set_option maxHeartbeats 400000 in
theorem letter_any (x : Nat) (w : World) (_hx : x < 256) : Calls Try.prog 23 #[.int .u8 x] w fun e w' => e = .returned (.bool (letB x)) ∧ w = w' := by
  by_cases h1 : 97 ≤ x
  · by_cases h2 : x ≤ 122
    · have H : Hid (letB x = true) := by show letB x = true; simp [letB, h1, h2]
      go_enter Try.func23, Try.ntmps23
      go_wp2_with fail
      go_ret
      exact ⟨ret_bool (by rw [H.out] <;> first | rfl | (simp; done) | (simp; omega)), rfl⟩
    · have H : Hid (letB x = false) := by show letB x = false; simp [letB, h2]
      go_enter Try.func23, Try.ntmps23
      go_wp2_with fail
      go_ret
      exact ⟨ret_bool (by rw [H.out] <;> first | rfl | (simp; done) | (simp; omega)), rfl⟩
  · have H : Hid (letB x = false) := by show letB x = false; simp [letB, h1]
    go_enter Try.func23, Try.ntmps23
    go_wp2_with fail
    go_ret
    exact ⟨ret_bool (by rw [H.out] <;> first | rfl | (simp; done) | (simp; omega)), rfl⟩
set_option maxHeartbeats 400000 in
theorem digit_any (x : Nat) (w : World) (_hx : x < 256) : Calls Try.prog 24 #[.int .u8 x] w fun e w' => e = .returned (.bool (digB x)) ∧ w = w' := by
  by_cases h1 : 48 ≤ x
  · by_cases h2 : x ≤ 57
    · have H : Hid (digB x = true) := by show digB x = true; simp [digB, h1, h2]
      go_enter Try.func24, Try.ntmps24
      go_wp2_with fail
      go_ret
      exact ⟨ret_bool (by rw [H.out] <;> first | rfl | (simp; done) | (simp; omega)), rfl⟩
    · have H : Hid (digB x = false) := by show digB x = false; simp [digB, h2]
      go_enter Try.func24, Try.ntmps24
      go_wp2_with fail
      go_ret
      exact ⟨ret_bool (by rw [H.out] <;> first | rfl | (simp; done) | (simp; omega)), rfl⟩
  · have H : Hid (digB x = false) := by show digB x = false; simp [digB, h1]
    go_enter Try.func24, Try.ntmps24
    go_wp2_with fail
    go_ret
    exact ⟨ret_bool (by rw [H.out] <;> first | rfl | (simp; done) | (simp; omega)), rfl⟩

set_option maxHeartbeats 2000000 in
set_option maxRecDepth 100000 in
theorem refName_any (s : ByteArray) (w : World) (hs : s.size ≤ 9223372036854775807) : Calls Try.prog 12 #[.string s] w fun e w' => e = .returned (.bool (nameB s)) ∧ w = w' := by
  by_cases h1 : s.size < 1
  · have hn : nameB s = false := by simp [nameB]; omega
    have Hn := Lib.hid hn
    clear hn
    go_enter Try.func12, Try.ntmps12
    go_wp2_with fail
    go_ret
    exact ⟨ret_bool Hn.out.symm, rfl⟩
  by_cases h2 : 64 < s.size
  · have hn : nameB s = false := by simp [nameB]; omega
    have Hn := Lib.hid hn
    clear hn
    go_enter Try.func12, Try.ntmps12
    go_wp2_with fail
    go_ret
    exact ⟨ret_bool Hn.out.symm, rfl⟩
  have hb0 := byteAt_eq s 0
  obtain ⟨x, hx⟩ : ∃ x, x = byteAt s 0 := ⟨_, rfl⟩
  have hx256 : x < 256 := by rw [hx]; exact byteAt_lt _ _
  rw [← hx] at hb0
  have hl := fun w => letter_any x w hx256
  have Hx := Lib.hid hx
  clear hx
  cases hlx : letB x
  · have hn : nameB s = false := by
      unfold nameB
      rw [decide_eq_false_iff_not, ← Hx.out]
      rintro ⟨_, _, ha, hb, _⟩
      simp [letB, ha, hb] at hlx
    have Hn := Lib.hid hn
    rw [hlx] at hl
    have Hl := Lib.hid hl
    clear hn hl hlx
    go_enter Try.func12, Try.ntmps12
    go_wp2_with (first
      | (go_at_call 23; refine (Hl.out _).mono ?_; rintro e w1 ⟨rfl, rfl⟩)
      | fail)
    go_ret
    exact ⟨ret_bool Hn.out.symm, rfl⟩
  have hx2 : 97 ≤ x ∧ x ≤ 122 := by simpa [letB] using hlx
  have Hx2 := Lib.hid hx2
  rw [hlx] at hl
  have Hl := Lib.hid hl
  clear hl hlx hx2
  go_enter Try.func12, Try.ntmps12
  go_wp2_with (first
    | (go_at_call 23; refine (Hl.out _).mono ?_; rintro e w1 ⟨rfl, rfl⟩)
    | fail)
  go_loop [3] (fun i => ∃ k : Nat, k ≤ s.size ∧ i = .int .i64 k ∧ Hid (∀ j, j < k → okc (byteAt s j) = true)) (fun i => s.size - (intOf i).toNat)
  case atStart => exact ⟨0, by omega, rfl, fun j hj => by omega⟩
  case round =>
    obtain ⟨k, hk, rfl, hall⟩ := hrel
    by_cases hlt : k < s.size
    · have hbk := byteAt_eq s k
      obtain ⟨y, hy⟩ : ∃ y, y = byteAt s k := ⟨_, rfl⟩
      have hy256 : y < 256 := by rw [hy]; exact byteAt_lt _ _
      rw [← hy] at hbk
      have Hy := Lib.hid hy
      have hp := okc_parts y
      have hly := fun w => letter_any y w hy256
      have hdy := fun w => digit_any y w hy256
      generalize letB y = lb at *
      generalize digB y = db at *
      have Hp := Lib.hid hp
      have Hly := Lib.hid hly
      have Hdy := Lib.hid hdy
      clear hy hp hly hdy
      have fin : ∀ b, okc y = b → Hid (okc y = b) := fun _ h => h
      have next : okc y = true → Hid (∀ j, j < k + 1 → okc (byteAt s j) = true) := fun h j hj => by
        rcases (by omega : j < k ∨ j = k) with h1 | h1
        · exact hall.out j h1
        · subst h1; rw [← Hy.out]; exact h
      have Next := Lib.hid next
      clear next fin
      by_cases e1 : y = 46
      · have Ho := Lib.hid (Next.out (by rw [Hp.out, e1]; simp))
        have q1 : ((y : Int) != 46) = false := by simp [e1]
        clear e1
        cases lb <;> cases db
        all_goals
          go_wp2_with (first
            | (go_at_call 23; refine (Hly.out _).mono ?_; rintro e w1 ⟨rfl, rfl⟩)
            | (go_at_call 24; refine (Hdy.out _).mono ?_; rintro e w1 ⟨rfl, rfl⟩)
            | fail)
          go_round
          case rel => exact ⟨k + 1, by omega, by go_num, Ho.out⟩
          case measure => simp [intOf]; omega
      have q1 : ((y : Int) != 46) = true := by simp; omega
      by_cases e2 : y = 45
      · have Ho := Lib.hid (Next.out (by rw [Hp.out, e2]; simp))
        have q2 : ((y : Int) != 45) = false := by simp [e2]
        clear e2 e1
        cases lb <;> cases db
        all_goals
          go_wp2_with (first
            | (go_at_call 23; refine (Hly.out _).mono ?_; rintro e w1 ⟨rfl, rfl⟩)
            | (go_at_call 24; refine (Hdy.out _).mono ?_; rintro e w1 ⟨rfl, rfl⟩)
            | fail)
          go_round
          case rel => exact ⟨k + 1, by omega, by go_num, Ho.out⟩
          case measure => simp [intOf]; omega
      have q2 : ((y : Int) != 45) = true := by simp; omega
      by_cases e3 : y = 58
      · have Ho := Lib.hid (Next.out (by rw [Hp.out, e3]; simp))
        have q3 : ((y : Int) != 58) = false := by simp [e3]
        clear e3 e2 e1
        cases lb <;> cases db
        all_goals
          go_wp2_with (first
            | (go_at_call 23; refine (Hly.out _).mono ?_; rintro e w1 ⟨rfl, rfl⟩)
            | (go_at_call 24; refine (Hdy.out _).mono ?_; rintro e w1 ⟨rfl, rfl⟩)
            | fail)
          go_round
          case rel => exact ⟨k + 1, by omega, by go_num, Ho.out⟩
          case measure => simp [intOf]; omega
      have q3 : ((y : Int) != 58) = true := by simp; omega
      have Hq : Hid (okc y = (lb || db)) := by
        show okc y = _
        rw [Hp.out, beq_false_of_ne e1, beq_false_of_ne e2, beq_false_of_ne e3]
        simp
      clear e3 e2 e1
      cases lb <;> cases db
      · have hbad : okc y = false := Hq.out
        have Hn : Hid (nameB s = false) := by
          show nameB s = false
          unfold nameB
          rw [decide_eq_false_iff_not]
          rintro ⟨_, _, _, _, h⟩
          have := h k hlt
          rw [← Hy.out, hbad] at this
          exact Bool.noConfusion this
        clear hbad
        go_wp2_with (first
          | (go_at_call 23; refine (Hly.out _).mono ?_; rintro e w1 ⟨rfl, rfl⟩)
          | (go_at_call 24; refine (Hdy.out _).mono ?_; rintro e w1 ⟨rfl, rfl⟩)
          | fail)
        go_ret
        exact ⟨ret_bool Hn.out.symm, rfl⟩
      all_goals
        have Ho := Lib.hid (Next.out Hq.out)
        go_wp2_with (first
          | (go_at_call 23; refine (Hly.out _).mono ?_; rintro e w1 ⟨rfl, rfl⟩)
          | (go_at_call 24; refine (Hdy.out _).mono ?_; rintro e w1 ⟨rfl, rfl⟩)
          | fail)
        go_round
        case rel => exact ⟨k + 1, by omega, by go_num, Ho.out⟩
        case measure => simp [intOf]; omega
    · obtain rfl : k = s.size := by omega
      go_wp2_with fail
      go_ret
      exact ⟨ret_bool (by symm; unfold nameB; rw [decide_eq_true_iff]; rw [← Hx.out]; exact ⟨by omega, by omega, Hx2.out.1, Hx2.out.2, hall.out⟩), rfl⟩

theorem wf_range {a : Int} (h : (Lit.int .i64 a).wf = true) : -9223372036854775808 ≤ a ∧ a ≤ 9223372036854775807 := by
  simp [Lit.wf, IntKind.min, IntKind.max, IntKind.signed, IntKind.bits] at h
  omega
theorem ret_modI {k : IntKind} {a b : Int} (h : a = b) : Ending.returned (.int k a) = .returned (.int k b) := by rw [h]
set_option maxHeartbeats 400000 in
theorem mod_any (a : Int) (n : Nat) (w : World) (hn : 1 ≤ n) (hn2 : n ≤ 1000) (ha : (Lit.int .i64 a).wf = true) : Calls Try.prog 13 #[.int .i64 a, .int .i64 n] w fun e w' => e = .returned (.int .i64 (a % (n : Int))) ∧ w = w' := by
  obtain ⟨h1, h2⟩ := wf_range ha
  have hm1 := Int.emod_nonneg a (b := (n : Int)) (by omega)
  have hm2 := Int.emod_lt_of_pos a (b := (n : Int)) (by omega)
  obtain ⟨t, ht, hb1, hb2, hfin⟩ : ∃ t, a.tmod n = t ∧ -(n : Int) ≤ t ∧ t < n ∧ Hid ((t + n) % (n : Int) = a % (n : Int)) := by
    refine ⟨_, rfl, ?_⟩
    rw [Int.tmod_eq_emod]
    split
    · refine ⟨by omega, by omega, ?_⟩
      show (a % (n : Int) - 0 + n) % (n : Int) = a % (n : Int)
      rw [Int.sub_zero, Int.add_emod_right, Int.emod_emod_of_dvd _ (Int.dvd_refl _)]
    · refine ⟨by simp; omega, by simp; omega, ?_⟩
      show (a % (n : Int) - ((n : Int).natAbs : Int) + n) % (n : Int) = a % (n : Int)
      rw [Int.natAbs_natCast, Int.sub_add_cancel, Int.emod_emod_of_dvd _ (Int.dvd_refl _)]
  clear hm1 hm2 ha
  go_enter Try.func13, Try.ntmps13
  go_wp2_with fail
  go_ret
  exact ⟨ret_modI hfin.out, rfl⟩
end Go.Proofs.Ytbcofdecdknkeaa
