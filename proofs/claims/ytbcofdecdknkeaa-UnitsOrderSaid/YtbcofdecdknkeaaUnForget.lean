/- units: Forget: what it leaves. -/
import Derived.Test.YtbcofdecdknkeaaUnWait
namespace Go.Proofs.Ytbcofdecdknkeaa
open Go.RowKit Go.Deep Go.Maps

def fgt (f : Int → ByteArray → List Int) (host : ByteArray) (k : Nat) : Int → ByteArray → List Int := fun l h => if 0 ≤ l ∧ l < (k : Int) ∧ h = host then [] else f l h
theorem fgt_zero (f : Int → ByteArray → List Int) (host : ByteArray) : fgt f host 0 = f := by
  funext l h
  unfold fgt
  rw [if_neg]
  rintro ⟨h1, h2, _⟩
  omega
theorem fgt_succ (f : Int → ByteArray → List Int) (host : ByteArray) (k : Nat) : fgt f host (k + 1) = upd (fgt f host k) k host [] := by
  funext l h
  unfold fgt upd
  dsimp only
  by_cases e : h = host
  · by_cases e2 : l = (k : Int)
    · rw [if_pos ⟨by omega, by omega, e⟩, if_pos ⟨e2, e⟩]
    · rw [if_neg (c := l = (k : Int) ∧ h = host) (fun h => e2 h.1)]
      by_cases e3 : 0 ≤ l ∧ l < (k : Int)
      · rw [if_pos ⟨e3.1, by omega, e⟩, if_pos ⟨e3.1, e3.2, e⟩]
      · rw [if_neg (fun h => e3 ⟨h.1, by omega⟩), if_neg (fun h => e3 ⟨h.1, h.2.1⟩)]
  · rw [if_neg (fun h => e h.2.2), if_neg (fun h => e h.2), if_neg (fun h => e h.2.2)]
theorem fgt_nil (host : ByteArray) (k : Nat) : fgt (fun _ _ => []) host k = fun _ _ => [] := by
  funext l h
  unfold fgt
  split <;> rfl
theorem Fair.fgt {f : Int → ByteArray → List Int} (h : Fair f) (host : ByteArray) (k : Nat) : Fair (fgt f host k) := by
  refine ⟨fun a b => ?_, fun a b => ?_⟩ <;> unfold Ytbcofdecdknkeaa.fgt <;> split
  · simp
  · exact h.short a b
  · exact fun h => absurd rfl h
  · exact h.good a b
theorem wf_small (k : Nat) (h : k < 9) : (Lit.int .i64 (k : Int)).wf = true := by
  exact WalkArith.wf_i64 (by omega)

set_option maxHeartbeats 1000000 in
set_option maxRecDepth 100000 in
theorem forget_nil (b n : Nat) (f : Int → ByteArray → List Int) (F : Nat → Prop) (host : ByteArray) (w : World) (h : UnitsAt w b n f F none) (hh : host.size ≤ maxLen) :
    Calls Try.prog 10 #[.pointer (some ⟨b, 0, none⟩), .string host] w fun e w' => e = .returned (.tuple #[]) ∧ w = w' := by
  have hc : w.cell? ⟨b, 0, none⟩ = some (.map none) := cell_of_row w b 0 _ _ _ h.blk
  go_enter Try.func10, Try.ntmps10
  go_wp2
  go_loop [7] (fun i => ∃ k : Nat, k ≤ 8 ∧ i = .int .i64 k) (fun i => 8 - (intOf i).toNat)
  case atStart => exact ⟨0, by omega, rfl⟩
  case round =>
    obtain ⟨k, hk, rfl⟩ := hrel
    by_cases hlt : k < 8
    · have hd := fun ty => drop_nil (w := w) u_law Try.underlying46 (key_ok (wf_small k (by omega)) hh) ty
      unfold keyV at hd
      have d1 : decide ((k : Int) < 8) = true := by simp; omega
      go_wp2
      go_round
      case rel => exact ⟨k + 1, by omega, by go_num⟩
      case measure => simp [intOf]; omega
    · obtain rfl : k = 8 := by omega
      go_wp2
      go_end0
      exact ⟨rfl, rfl⟩

set_option maxHeartbeats 1000000 in
set_option maxRecDepth 100000 in
theorem forget_some (b n mb : Nat) (f : Int → ByteArray → List Int) (F : Nat → Prop) (host : ByteArray) (w : World) (h : UnitsAt w b n f F (some mb)) (hh : host.size ≤ maxLen) :
    Calls Try.prog 10 #[.pointer (some ⟨b, 0, none⟩), .string host] w (Left w b n F (fgt f host 8) (.tuple #[])) := by
  obtain ⟨D, him⟩ := h.made
  have hmb := mb_ne h him
  have hc : w.cell? ⟨b, 0, none⟩ = some (.map (some mb)) := cell_of_row w b 0 _ _ _ h.blk
  have Him := Lib.hid him
  have H := Lib.hid h
  clear him h
  go_enter Try.func10, Try.ntmps10
  go_wp2
  go_loopw [7] (fun i wr => ∃ (k : Nat) (D : DataW Value), k ≤ 8 ∧ i = .int .i64 k ∧ InMap wr F mb n D (fgt f host k) ∧ Mod (fun k => k = mb) w wr) (fun i _ => 8 - (intOf i).toNat)
  case atStart => exact ⟨0, D, by omega, rfl, by rw [fgt_zero]; exact Him.out, Mod.refl _ _⟩
  case round =>
    obtain ⟨k, D2, hk, rfl, him2, hM2⟩ := hrel
    have hc2 : wr.cell? ⟨b, 0, none⟩ = some (.map (some mb)) := keep_map Him.out.owns hM2 hc
    by_cases hlt : k < 8
    · have d1 : decide ((k : Int) < 8) = true := by simp; omega
      have hkey := key_ok (wf_small k (by omega)) hh
      unfold keyV at hkey
      go_wp2_with (first
        | (at_delete; refine wpList_delete_own _ rfl _ _ 46 50 rfl 34 u_law Try.underlying46 RV mb n D2 rfl him2.owns _ _ rfl hkey ?_; intro w3 hown3 hturn3))
      have hM3 : Mod (fun k => k = mb) wr w3 := Mod.of_grown hturn3.grown (fun k e => (Option.some.inj e).symm)
      go_roundw
      case rel => exact ⟨k + 1, _, by omega, by go_num, by rw [fgt_succ]; exact him2.del (wf_small k (by omega)) hh hown3 hM3, hM2.trans hM3 (fun _ _ h => h)⟩
      case measure => simp [intOf]; omega
    · obtain rfl : k = 8 := by omega
      go_wp2
      go_end0
      exact left_map H.out (him2.mono (fun _ _ h => .inl h)) hM2 Him.out.inF hmb (H.out.fair.fgt host 8) _

theorem forget_any (b n : Nat) (f : Int → ByteArray → List Int) (F : Nat → Prop) (m : Option Nat) (host : ByteArray) (w : World) (h : UnitsAt w b n f F m) (hh : host.size ≤ maxLen) :
    Calls Try.prog 10 #[.pointer (some ⟨b, 0, none⟩), .string host] w (Left w b n F (fgt f host 8) (.tuple #[])) := by
  rcases m with _ | mb
  · have hf : f = fun _ _ => [] := by
      rcases h.map with ⟨_, hf⟩ | ⟨mb, D, h1, _⟩
      · exact hf
      · cases h1
    subst hf
    refine (forget_nil b n _ F host w h hh).mono ?_
    rintro e w' ⟨rfl, rfl⟩
    rw [fgt_nil]
    exact left_same h (Nat.le_refl _) _
  · exact forget_some b n mb f F host w h hh
end Go.Proofs.Ytbcofdecdknkeaa
