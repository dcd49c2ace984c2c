/- units: Add: one contract for all its ways. -/
import Derived.Test.YtbcofdecdknkeaaUnAddYes
namespace Go.Proofs.Ytbcofdecdknkeaa
open Go.RowKit Go.Deep Go.Maps

def addR (f : Int → ByteArray → List Int) (lun : Int) (host : ByteArray) (why : Int) : Bool := decide (0 ≤ lun ∧ lun < 8 ∧ 1 ≤ why ∧ why ≤ 4) && nameB host && !((f lun host).getLast? == some why)
def addF (f : Int → ByteArray → List Int) (lun : Int) (host : ByteArray) (why : Int) : Int → ByteArray → List Int :=
  if addR f lun host why = true then upd f lun host ((if (f lun host).length = 8 then (f lun host).tail else f lun host) ++ [why]) else f

theorem last_at {l : List Int} (h : l ≠ []) : l.getLast? = some (l.getD (l.length - 1) 0) := by
  rw [List.getLast?_eq_getElem?, List.getD_eq_getElem?_getD, List.getElem?_eq_getElem (by have := List.length_pos_iff.2 h; omega)]
  rfl

theorem add_any (b n : Nat) (f : Int → ByteArray → List Int) (F : Nat → Prop) (m : Option Nat) (lun why : Int) (host : ByteArray) (w : World) (h : UnitsAt w b n f F m) (hn : n < maxLen) (hh : host.size ≤ maxLen) :
    Calls Try.prog 7 #[.pointer (some ⟨b, 0, none⟩), .int .i64 lun, .string host, .int .i64 why] w (Left w b (n + 1) F (addF f lun host why) (.bool (addR f lun host why))) := by
  by_cases hg : 0 ≤ lun ∧ lun < 8 ∧ 1 ≤ why ∧ why ≤ 4
  · obtain ⟨h1, h2, h3, h4⟩ := hg
    cases hnm : nameB host
    · have hr : addR f lun host why = false := by simp [addR, hnm]
      have hf : addF f lun host why = f := by unfold addF; rw [hr]; rfl
      rw [hr, hf]
      refine (add_name b lun why host w h1 h2 h3 h4 hh hnm).mono ?_
      rintro e w' ⟨rfl, hb⟩
      exact ⟨rfl, ⟨m, ((h.stay (Mod.of_new (F := fun _ => False) hb) (fun _ _ h => h)).more (Nat.le_succ _)).mono (fun _ _ h => .inl h)⟩, Mod.of_new hb⟩
    · have hd : decide (0 ≤ lun ∧ lun < 8 ∧ 1 ≤ why ∧ why ≤ 4) = true := decide_eq_true ⟨h1, h2, h3, h4⟩
      have hr0 : addR f lun host why = !((f lun host).getLast? == some why) := by unfold addR; rw [hd, hnm]; rfl
      have h8 := h.fair.short lun host
      rcases h0 : f lun host with _ | ⟨x, r⟩
      · have hr : addR f lun host why = true := by rw [hr0, h0]; rfl
        have hf : addF f lun host why = upd f lun host [why] := by unfold addF; rw [if_pos hr, h0]; rfl
        rw [hr, hf]
        rcases m with _ | mb
        · exact add_nomap b n f F lun why host w h hn h1 h2 h3 h4 hh hnm h0
        · exact add_zero b n mb f F lun why host w h hn h1 h2 h3 h4 hh hnm h0
      · have hne : f lun host ≠ [] := by rw [h0]; simp
        obtain ⟨mb, rfl⟩ := h.some_ hne
        rw [last_at hne] at hr0
        have hlen : 1 ≤ (f lun host).length := List.length_pos_iff.2 hne
        by_cases hl : (f lun host).getD ((f lun host).length - 1) 0 = why
        · have hr : addR f lun host why = false := by rw [hr0, hl]; simp
          have hf : addF f lun host why = f := by unfold addF; rw [hr]; rfl
          rw [hr, hf]
          exact add_last b n mb f F lun why host w h h1 h2 h3 h4 hh hnm _ rfl hlen hl
        · have hr : addR f lun host why = true := by rw [hr0]; simp; simpa using hl
          by_cases h9 : (f lun host).length = 8
          · have hf : addF f lun host why = upd f lun host ((f lun host).tail ++ [why]) := by unfold addF; rw [if_pos hr, if_pos h9]
            rw [hr, hf]
            exact add_full b n mb f F lun why host w h hn h1 h2 h3 h4 hh hnm _ rfl h9 _ rfl (beq_eq_false_iff_ne.2 hl)
          · have hf : addF f lun host why = upd f lun host (f lun host ++ [why]) := by unfold addF; rw [if_pos hr, if_neg h9]
            rw [hr, hf]
            exact add_mid b n mb f F lun why host w h hn h1 h2 h3 h4 hh hnm _ rfl hlen (by omega) _ rfl (beq_eq_false_iff_ne.2 hl)
  · have hr : addR f lun host why = false := by unfold addR; rw [decide_eq_false hg]; rfl
    have hf : addF f lun host why = f := by unfold addF; rw [hr]; rfl
    rw [hr, hf]
    refine (add_out b lun why host w hg).mono ?_
    rintro e w' ⟨rfl, rfl⟩
    exact left_same h (Nat.le_succ _) _
end Go.Proofs.Ytbcofdecdknkeaa
