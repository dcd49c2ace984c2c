/- names.Name, names.letters and the reference's Name: what they answer. -/
import Derived.Test.YtbcofdecdknkeaaProg
import Derived.WalkKit
import Derived.WalkLawsBesides
import Derived.WalkSpells
import Derived.Deep.OwnRows
import Derived.Deep.QuietTactic
import Derived.BigQuiet
import Derived.Lib.Hide
import Derived.Outline
import Derived.KernelRfl
namespace Go.Proofs.Ytbcofdecdknkeaa
open Go.RowKit Go.Deep

/-- is a byte's number one of a name's letters? -/
def okc (c : Nat) : Bool := (97 ≤ c && c ≤ 122) || (48 ≤ c && c ≤ 57) || c == 46 || c == 45 || c == 58
/-- the k-th pair of bounds in letters. -/
def lo (k : Nat) : Nat := [97, 48, 46, 45, 58].getD k 0
def hi (k : Nat) : Nat := [122, 57, 46, 45, 58].getD k 0
def stepok (k : Nat) (c : Nat) : Bool := (List.range k).any fun j => lo j ≤ c && c ≤ hi j

def strs5 : Obj := .cells #[.string ⟨#[97, 122]⟩, .string ⟨#[48, 57]⟩, .string ⟨#[46, 46]⟩, .string ⟨#[45, 45]⟩, .string ⟨#[58, 58]⟩] 9 (0, 0)

theorem letters_zero (w : World) : (zeroValue 61).run Try.prog w = .ok (.agg (Array.replicate 256 (.bool false))) w := by kernel_rfl

theorem stepok_succ (k c : Nat) : stepok (k + 1) c = (stepok k c || (decide (lo k ≤ c) && decide (c ≤ hi k))) := by
  simp [stepok, List.range_succ]
theorem stepok_five (c : Nat) : stepok 5 c = okc c := by
  simp only [stepok, okc, lo, hi]
  rw [Bool.eq_iff_iff]
  simp [List.range_succ]
  omega

theorem pw_below_drewN {B : Nat} {w W : World} (h : Below B w W) (n : Nat) : Below B w (W.drewN n) := ⟨h.os, h.tape, h.output, h.size, h.block⟩

/-- what the k-th text of letters is. -/
theorem strs_at (k : Nat) (hk : k < 5) : ∃ (S : ByteArray) (a b : Nat), (#[Value.string ⟨#[97, 122]⟩, .string ⟨#[48, 57]⟩, .string ⟨#[46, 46]⟩, .string ⟨#[45, 45]⟩, .string ⟨#[58, 58]⟩])[k]? = some (.string S) ∧ S.size = 2 ∧ (∀ h, (S[0]'h).toNat = a) ∧ (∀ h, (S[1]'h).toNat = b) ∧ a ≤ b ∧ b ≤ 122 ∧ lo k = a ∧ hi k = b := by
  rcases (by omega : k = 0 ∨ k = 1 ∨ k = 2 ∨ k = 3 ∨ k = 4) with rfl | rfl | rfl | rfl | rfl
  · exact ⟨_, 97, 122, rfl, rfl, fun _ => rfl, fun _ => rfl, by omega, by omega, rfl, rfl⟩
  · exact ⟨_, 48, 57, rfl, rfl, fun _ => rfl, fun _ => rfl, by omega, by omega, rfl, rfl⟩
  · exact ⟨_, 46, 46, rfl, rfl, fun _ => rfl, fun _ => rfl, by omega, by omega, rfl, rfl⟩
  · exact ⟨_, 45, 45, rfl, rfl, fun _ => rfl, fun _ => rfl, by omega, by omega, rfl, rfl⟩
  · exact ⟨_, 58, 58, rfl, rfl, fun _ => rfl, fun _ => rfl, by omega, by omega, rfl, rfl⟩

/-- the table while letters fills it: the first k pairs are done; of the next one (from a on) those below c. -/
def Tab (B k a c : Nat) (w : World) : Prop := w.rowIs B 61 256 (fun j => .bool (stepok k j || (decide (a ≤ j) && decide (j < c))))
theorem Tab.start {B k a : Nat} {w : World} (h : w.rowIs B 61 256 (fun j => .bool (stepok k j))) : Tab B k a a w := h.congr (fun i _ => by
  have : (decide (a ≤ i) && decide (i < a)) = false := by simp
  simp [this])
theorem Tab.step {B k a c : Nat} {w : World} (h : Tab B k a c w) (hac : a ≤ c) : Tab B k a (c + 1) (w.setCell ⟨B, c, none⟩ (.bool true)) := (World.rowIs.set h c (.bool true)).congr (fun i _ => by
  by_cases e : i = c
  · subst e; simp [hac]
  · rw [if_neg e]
    have : (decide (i < c + 1)) = decide (i < c) := by simp; omega
    rw [this])
theorem Tab.done {B k a b : Nat} {w : World} (h : Tab B k a (b + 1) w) (ha : lo k = a) (hb : hi k = b) : w.rowIs B 61 256 (fun j => .bool (stepok (k + 1) j)) := World.rowIs.congr h (fun i _ => by
  have : (decide (i < b + 1)) = decide (i ≤ b) := by simp; omega
  rw [stepok_succ, ha, hb, this])

theorem heap_alloc_new2 (w : World) (o p : Obj) : ((w.alloc o).alloc p).heap[w.heap.size + 1]? = some p := by
  have : (w.alloc o).heap.size = w.heap.size + 1 := by simp
  rw [← this]
  exact heap_alloc_new _ _

set_option maxHeartbeats 1000000 in
set_option maxRecDepth 100000 in
theorem letters_any (w : World) : Calls Try.prog 27 #[] w fun e w' => e = .returned (.pointer (some ⟨w.heap.size, 0, none⟩)) ∧ w'.rowIs w.heap.size 61 256 (fun i => .bool (okc i)) ∧ Below w.heap.size w w' := by
  have hz := letters_zero
  obtain ⟨z, hzz⟩ : ∃ z, z = Array.replicate 256 (Value.bool false) := ⟨_, rfl⟩
  rw [← hzz] at hz
  have hz' := Lib.hid hzz
  clear hzz
  go_enter Try.func27, Try.ntmps27
  go_wp2
  go_loopw [7] (fun i wr => ∃ k : Nat, k ≤ 5 ∧ i = .int .i64 k ∧ wr.rowIs w.heap.size 61 256 (fun c => .bool (stepok k c)) ∧ wr.heap[w.heap.size + 1]? = some (.cells #[.string ⟨#[97, 122]⟩, .string ⟨#[48, 57]⟩, .string ⟨#[46, 46]⟩, .string ⟨#[45, 45]⟩, .string ⟨#[58, 58]⟩] 9 (0, 0)) ∧ Below w.heap.size w wr) (fun i _ => 5 - (intOf i).toNat)
  case atStart =>
    refine ⟨0, by omega, rfl, ?_, ?_, ((Below.refl _ _).alloc (Nat.le_refl _) _).alloc (by simp) _⟩
    · have hz2 := hz'.out
      have hc : ∀ i, i < z.size → z[i]? = some ((fun c => Value.bool (stepok 0 c)) i) := fun i hi => by subst hz2; simp at hi; simp [stepok, hi]
      have := (World.rowIs_alloc w z 61 (fun c => .bool (stepok 0 c)) hc).alloc (.cells #[.string ⟨#[97, 122]⟩, .string ⟨#[48, 57]⟩, .string ⟨#[46, 46]⟩, .string ⟨#[45, 45]⟩, .string ⟨#[58, 58]⟩] 9)
      have e : z.size = 256 := by rw [hz2]; simp
      rw [e] at this
      exact this
    · exact heap_alloc_new2 _ _ _
  case round =>
    obtain ⟨k, hk, rfl, hrow, hstr, hb⟩ := hrel
    by_cases h5 : k < 5
    · obtain ⟨S, a, b, hS, hsz, h0, h1, hab, hb122, ha, hbb⟩ := strs_at k h5
      have hc : wr.cell? ⟨w.heap.size + 1, k, none⟩ = some (.string S) := (cell_of_row wr (w.heap.size + 1) k _ _ _ hstr).trans hS
      have HT := Lib.hid (Tab.start (a := a) hrow)
      have HS := Lib.hid hstr
      have Hh := Lib.hid (And.intro ha hbb)
      clear hS hrow hstr ha hbb
      go_wp2
      go_loopw [4] (fun s wq => ∃ c : Nat, a ≤ c ∧ c ≤ b + 1 ∧ s = .int .i64 c ∧ Tab w.heap.size k a c wq ∧ wq.heap[w.heap.size + 1]? = some (.cells #[.string ⟨#[97, 122]⟩, .string ⟨#[48, 57]⟩, .string ⟨#[46, 46]⟩, .string ⟨#[45, 45]⟩, .string ⟨#[58, 58]⟩] 9 (0, 0)) ∧ Below w.heap.size w wq) (fun s _ => b + 1 - (intOf s).toNat)
      case atStart => exact ⟨a, by omega, by omega, rfl, HT.out, HS.out, hb⟩
      case round =>
        obtain ⟨c, hac, hcb, rfl, hT, hstr2, hb2⟩ := hrel
        by_cases hlt : c ≤ b
        · have hf := World.rowIs.frozen hT c
          have hcl := World.rowIs.cell hT (i := c) (by omega)
          have hd : decide ((c : Int) ≤ (b : Int)) = true := by simp; omega
          go_wp2
          go_roundw
          case rel => exact ⟨c + 1, by omega, by omega, by go_num, hT.step hac, (Below.heap_setCell _ _ _ _ (by simp)).trans hstr2, hb2.setCell (by simp) _⟩
          case measure => simp [intOf]; omega
        · have hd : decide ((c : Int) ≤ (b : Int)) = false := by simp; omega
          obtain rfl : c = b + 1 := by omega
          go_wp2
          go_roundw
          case rel => exact ⟨k + 1, by omega, by go_num, hT.done Hh.out.1 Hh.out.2, hstr2, hb2⟩
          case measure => simp [intOf]; omega
    · obtain rfl : k = 5 := by omega
      go_wp2
      go_ret
      exact ⟨rfl, hrow.congr (fun i _ => by rw [stepok_five]), hb⟩

def byteAt (s : ByteArray) (i : Nat) : Nat := if h : i < s.size then (s[i]'h).toNat else 0
theorem byteAt_eq (s : ByteArray) (i : Nat) : ∀ h : i < s.size, (s[i]'h).toNat = byteAt s i := fun h => by simp [byteAt, h]
theorem byteAt_lt (s : ByteArray) (i : Nat) : byteAt s i < 256 := by
  unfold byteAt; split
  · exact UInt8.toNat_lt _
  · omega

/-- what both packages call a name. -/
def nameB (s : ByteArray) : Bool := decide (1 ≤ s.size ∧ s.size ≤ 64 ∧ 97 ≤ byteAt s 0 ∧ byteAt s 0 ≤ 122 ∧ ∀ i, i < s.size → okc (byteAt s i) = true)

theorem ret_bool {a b : Bool} (h : a = b) : Ending.returned (.bool a) = .returned (.bool b) := by rw [h]

set_option maxHeartbeats 1000000 in
set_option maxRecDepth 100000 in
theorem name_any (s : ByteArray) (w : World) (hs : s.size ≤ 9223372036854775807) : Calls Try.prog 21 #[.string s] w fun e w' => e = .returned (.bool (nameB s)) ∧ Below w.heap.size w w' := by
  by_cases h1 : s.size < 1
  · have hn : nameB s = false := by simp [nameB]; omega
    have Hn := Lib.hid hn
    clear hn
    go_enter Try.func21, Try.ntmps21
    go_wp2_with fail
    go_ret
    exact ⟨ret_bool Hn.out.symm, Below.refl _ _⟩
  by_cases h2 : 64 < s.size
  · have hn : nameB s = false := by simp [nameB]; omega
    have Hn := Lib.hid hn
    clear hn
    go_enter Try.func21, Try.ntmps21
    go_wp2_with fail
    go_ret
    exact ⟨ret_bool Hn.out.symm, Below.refl _ _⟩
  have hb0 := byteAt_eq s 0
  obtain ⟨x, hx⟩ : ∃ x, x = byteAt s 0 := ⟨_, rfl⟩
  have hx256 : x < 256 := by rw [hx]; exact byteAt_lt _ _
  rw [← hx] at hb0
  by_cases h3 : x < 97
  · have hn : nameB s = false := by simp [nameB]; omega
    have Hn := Lib.hid hn
    have Hx := Lib.hid hx
    clear hx hn
    go_enter Try.func21, Try.ntmps21
    go_wp2_with fail
    go_ret
    exact ⟨ret_bool Hn.out.symm, Below.refl _ _⟩
  by_cases h4 : 122 < x
  · have hn : nameB s = false := by simp [nameB]; omega
    have Hn := Lib.hid hn
    have Hx := Lib.hid hx
    clear hx hn
    go_enter Try.func21, Try.ntmps21
    go_wp2_with fail
    go_ret
    exact ⟨ret_bool Hn.out.symm, Below.refl _ _⟩
  have Hx := Lib.hid hx
  clear hx
  have d1 : decide ((s.size : Int) < 1) = false := by simp; omega
  have d2 : decide (64 < (s.size : Int)) = false := by simp; omega
  have d3 : decide ((x : Int) < 97) = false := by simp; omega
  have d4 : decide (122 < (x : Int)) = false := by simp; omega
  go_enter Try.func21, Try.ntmps21
  go_wp2_with (go_at_call 27; refine (letters_any _).mono ?_; rintro e w1 ⟨rfl, hrow, hb⟩)
  go_loopw [26] (fun i wr => ∃ k : Nat, k ≤ s.size ∧ i = .int .i64 k ∧ wr.rowIs w.heap.size 61 256 (fun c => .bool (okc c)) ∧ Below w.heap.size w wr ∧ Hid (∀ j, j < k → okc (byteAt s j) = true)) (fun i _ => s.size - (intOf i).toNat)
  case atStart => exact ⟨0, by omega, rfl, hrow, hb, fun j hj => by omega⟩
  case round =>
    obtain ⟨k, hk, rfl, hrow2, hb2, hall⟩ := hrel
    by_cases hlt : k < s.size
    · have hbk := byteAt_eq s k
      obtain ⟨y, hy⟩ : ∃ y, y = byteAt s k := ⟨_, rfl⟩
      have hy256 : y < 256 := by rw [hy]; exact byteAt_lt _ _
      rw [← hy] at hbk
      have hc := hrow2.cell hy256
      have hf := hrow2.frozen y
      have Hy := Lib.hid hy
      clear hy
      have hd : decide ((k : Int) < (s.size : Int)) = true := by simp; omega
      have hi0 : (0 : Int) ≤ (k : Int) := by omega
      have hi1 : (k : Int) < (s.size : Int) := by omega
      have hj0 : (0 : Int) ≤ (y : Int) := by omega
      have hj1 : (y : Int) < (256 : Int) := by omega
      cases hok : okc y
      · go_wp2_with fail
        go_quiet (fail)
        go_wp2
        go_ret
        exact ⟨ret_bool (by symm; unfold nameB; rw [decide_eq_false_iff_not]; rintro ⟨_, _, _, _, h⟩; have := h k hlt; rw [← Hy.out, hok] at this; exact Bool.noConfusion this), pw_below_drewN hb2 _⟩
      · go_wp2_with fail
        go_quiet (fail)
        go_wp2
        go_roundw
        case rel => exact ⟨k + 1, by omega, by go_num, hrow2, pw_below_drewN hb2 _, fun j hj => by
          rcases (by omega : j < k ∨ j = k) with h | h
          · exact hall.out j h
          · subst h; rw [← Hy.out]; exact hok⟩
        case measure => simp [intOf]; omega
    · obtain rfl : k = s.size := by omega
      have hd : decide ((s.size : Int) < (s.size : Int)) = false := by simp
      go_wp2
      go_ret
      exact ⟨ret_bool (by symm; unfold nameB; rw [decide_eq_true_iff]; rw [← Hx.out]; exact ⟨by omega, by omega, by omega, by omega, hall.out⟩), hb2⟩
end Go.Proofs.Ytbcofdecdknkeaa
