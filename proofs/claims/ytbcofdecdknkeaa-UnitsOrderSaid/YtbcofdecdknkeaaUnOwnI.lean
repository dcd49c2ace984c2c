/- units: a slice of numbers of the call's own, which may begin behind its row's beginning; one number appended to it. -/
import Derived.Test.YtbcofdecdknkeaaUnAdd
import Derived.ArgAppend
import Derived.Deep.AppendLies
namespace Go.Proofs.Ytbcofdecdknkeaa
open Go.RowKit Go.Deep Go.Maps

def OwnI (w : World) (B : Nat) (v : Value) (xs : List Int) : Prop :=
  (v = .slice none 0 0 ∧ xs = []) ∨ ∃ g o cap cur, v = .slice (some ⟨g, o, none⟩) xs.length cap ∧ B ≤ g ∧ w.heap[g]? = some (.cells cur 3 (0, 0)) ∧ o + cap ≤ cur.size ∧ xs.length ≤ cap ∧ ∀ i, i < xs.length → cur[o + i]? = some (.int .i64 (xs.getD i 0))
theorem OwnI.nil (w : World) (B : Nat) : OwnI w B (.slice none 0 0) [] := .inl ⟨rfl, rfl⟩
theorem OwnI.block {w : World} {B : Nat} {v : Value} {xs : List Int} (h : OwnI w B v xs) : ∀ g, v.ownBlock = some g → B ≤ g ∧ g < w.heap.size := fun g hg => by
  rcases h with ⟨rfl, _⟩ | ⟨g', o, cap, cur, rfl, h1, h2, _⟩
  · cases hg
  · simp only [Value.ownBlock, Option.some.injEq] at hg
    subst hg
    exact ⟨h1, (Array.getElem?_eq_some_iff.1 h2).1⟩
theorem OwnI.slice {w : World} {B : Nat} {v : Value} {xs : List Int} (h : OwnI w B v xs) : ∃ a cap, v = .slice a xs.length cap := by
  rcases h with ⟨rfl, rfl⟩ | ⟨g', o, cap, cur, rfl, _⟩
  · exact ⟨none, 0, rfl⟩
  · exact ⟨_, _, rfl⟩
theorem OwnI.cell {w : World} {B : Nat} {v : Value} {xs : List Int} (h : OwnI w B v xs) (hne : xs ≠ []) : ∃ g o cap, v = .slice (some ⟨g, o, none⟩) xs.length cap ∧ xs.length ≤ cap ∧ B ≤ g ∧ g < w.heap.size ∧ ∀ i, i < xs.length → w.cell? ⟨g, o + i, none⟩ = some (.int .i64 (xs.getD i 0)) := by
  rcases h with ⟨_, rfl⟩ | ⟨g, o, cap, cur, rfl, h1, h2, h3, h4, h5⟩
  · exact absurd rfl hne
  · exact ⟨g, o, cap, rfl, h4, h1, (Array.getElem?_eq_some_iff.1 h2).1, fun i hi => by rw [cell_of_row w g (o + i) cur _ _ h2]; exact h5 i hi⟩
theorem OwnI.keep {w w' : World} {B : Nat} {v : Value} {xs : List Int} (h : OwnI w B v xs) (hb : ∀ g, v.ownBlock = some g → w'.heap[g]? = w.heap[g]?) : OwnI w' B v xs := by
  rcases h with h | ⟨g, o, cap, cur, rfl, h1, h2, h3⟩
  · exact .inl h
  · exact .inr ⟨g, o, cap, cur, rfl, h1, (hb g rfl).trans h2, h3⟩
theorem OwnI.tail {w : World} {B g o cap : Nat} {xs : List Int} (h : OwnI w B (.slice (some ⟨g, o, none⟩) xs.length cap) xs) (hne : xs ≠ []) : OwnI w B (.slice (some ⟨g, o + 1, none⟩) (xs.length - 1) (cap - 1)) xs.tail := by
  rcases h with ⟨h, _⟩ | ⟨g', o', cap', cur, hv, h1, h2, h3, h4, h5⟩
  · cases h
  · injection hv with hv hn hc
    injection hv with hv
    injection hv with hg ho _
    subst hg ho hc
    have hl : 0 < xs.length := List.length_pos_iff.2 hne
    refine .inr ⟨g, o + 1, cap - 1, cur, by simp, h1, h2, by omega, by simp; omega, fun i hi => ?_⟩
    simp only [List.length_tail] at hi
    have := h5 (i + 1) (by omega)
    rw [show o + 1 + i = o + (i + 1) by omega, this]
    cases xs with
    | nil => exact absurd rfl hne
    | cons x l => simp

theorem intsV_at (xs : List Int) (i : Nat) (h : i < xs.length) : (xs.map (Value.int .i64))[i]? = some (.int .i64 (xs.getD i 0)) := by simp [h]
theorem OwnI.of_own {w : World} {B n : Nat} {v : Value} {xs : List Int} (h : w.ownsRow B 3 1 v n (xs.map (Value.int .i64))) (hne : xs ≠ []) : OwnI w B v xs ∧ ∃ g, v.ownBlock = some g ∧ B ≤ g := by
  obtain ⟨h0, h1⟩ := h
  have hl : xs.length = n := by simpa using h0
  rcases h1 with ⟨_, hz⟩ | ⟨g, cap, cur, rfl, h2, h3, h4, h5, h6, h7⟩
  · exact absurd (List.eq_nil_of_length_eq_zero (by omega)) hne
  · refine ⟨.inr ⟨g, 0, cap, cur, by rw [hl], h2, h3, by omega, by omega, fun i hi => ?_⟩, g, rfl, h2⟩
    rw [← intsV_at xs i hi, ← h7, List.getElem?_take_of_lt (by omega), Nat.zero_add]
    simp

set_option maxRecDepth 100000 in
theorem wpList_append_I {w : World} {ops : Array Oper} {rest : List Oper} {o : Oper} {a : Act} {Q : Exit → Act → World → Prop} (hgd : o.guard = none) (s x : Operand)
    (ho : o.op = .call { callee := .builtin .append, args := #[s, x], argTypes := #[34, 34] })
    (B : Nat) (v : Value) (xs : List Int) (hs : a.eval s = v) (h : OwnI w B v xs) (hl : xs.length ≤ 1000) (hB : B ≤ w.heap.size) (ad : Addr) (c : Nat) (y : Int) (hx : a.eval x = .slice (some ad) 1 c) (hc : w.cell? ad = some (.int .i64 y))
    (hk : ∀ v' w', OwnI w' B v' (xs ++ [y]) → w.grownBy w' v.ownBlock → (v'.ownBlock = v.ownBlock ∨ ∃ g, v'.ownBlock = some g ∧ w.heap.size ≤ g) → wpList Try.prog ops Q rest (a.put o.dst v') w') : wpList Try.prog ops Q (o :: rest) a w := by
  obtain ⟨i0, hi, hz0, hz1, hz2⟩ := info_parts u_info
  have hnews : ∀ j u, [Value.int .i64 y][j]? = some u → w.cell? (ad.add j) = some u := fun j u hu => by
    match j, hu with
    | 0, hu =>
      simp at hu
      subst hu
      have : ad.add 0 = ad := by obtain ⟨b, f, sp⟩ := ad; unfold Addr.add; split <;> simp_all
      rw [this]
      exact hc
  rcases h with ⟨rfl, rfl⟩ | ⟨g, f, cap, cur, rfl, h1, h2, h3, h4, h5⟩
  · refine wpList_append_own _ hgd s x 34 ho w.heap.size 3 i0 (.int .i64 0) 1 8 Try.underlying34 hi hz0 hz1 hz2 rfl (by decide) _ 0 [] hs (World.ownsRow_nil _ _ _ _) ad 1 c [.int .i64 y] hx rfl hnews (by simp [Value.oneCell']) (by unfold maxLen; omega) (by omega) (Nat.le_refl _) ?_
    intro v' w' h6 h7 _
    obtain ⟨h8, g, h9, h10⟩ := OwnI.of_own (xs := [y]) h6 (by simp)
    refine hk v' w' ?_ h7 (.inr ⟨g, h9, h10⟩)
    rcases h8 with h8 | ⟨g', o', cap', cur', e1, e2, e3⟩
    · exact .inl h8
    · exact .inr ⟨g', o', cap', cur', e1, Nat.le_trans hB e2, e3⟩
  · have hlt : g < w.heap.size := (Array.getElem?_eq_some_iff.1 h2).1
    refine wpList_append_arg w hgd s x 34 ho 3 i0 (.int .i64 0) 1 8 Try.underlying34 hi hz0 hz1 hz2 rfl (by decide) g f xs.length cap (xs.map (Value.int .i64)) hs (by simp) (fun j u hu => ?_) ad 1 c [.int .i64 y] hx rfl hnews (by simp [Value.oneCell']) (fun hr j hj => ?_) (by unfold maxLen; omega) (by omega) (fun hr => ?_) (fun hr v' w' h6 h7 => ?_)
    · have hj : j < xs.length := by
        have := (List.getElem?_eq_some_iff.1 hu).1
        simpa using this
      rw [cell_of_row w g (f + j) cur _ _ h2, h5 j hj, ← intsV_at xs j hj, hu]
    · have hj0 : j = 0 := by simp at hj; omega
      subst hj0
      refine ⟨?_, by simp [World.frozen?, h2]⟩
      rw [cell_of_row w g _ cur _ _ h2, Array.getElem?_eq_getElem (by omega)]
      rfl
    · have e : w.setCells g (f + xs.length * 1) [.int .i64 y] = w.setCell ⟨g, f + xs.length, none⟩ (.int .i64 y) := by rw [Nat.mul_one]; rfl
      rw [e]
      have hb : (w.setCell ⟨g, f + xs.length, none⟩ (.int .i64 y)).heap[g]? = some (.cells (cur.setIfInBounds (f + xs.length) (.int .i64 y)) 3 (0, 0)) := by
        rw [setCell_eq_setRow w g (f + xs.length) cur _ _ _ h2]
        exact setRow_heap w g cur _ _ _ h2
      refine hk _ _ (.inr ⟨g, f, cap, _, by simp, h1, hb, by simpa using h3, by simp; omega, fun i hi => ?_⟩) ⟨rfl, rfl, rfl, by simp, fun k _ hk => Below.heap_setCell _ _ _ _ (fun e => hk (by simp [Value.ownBlock, e]))⟩ (.inl rfl)
      simp only [List.length_append, List.length_singleton] at hi
      by_cases hi2 : i < xs.length
      · rw [Array.getElem?_setIfInBounds_ne (by omega), h5 i hi2]
        simp [List.getElem?_append_left hi2]
      · have hi3 : i = xs.length := by omega
        subst hi3
        rw [Array.getElem?_setIfInBounds_self_of_lt (by omega)]
        simp
    · rw [show xs.map (Value.int .i64) ++ [Value.int .i64 y] = (xs ++ [y]).map (Value.int .i64) by simp] at h6
      obtain ⟨h8, g', h9, h10⟩ := OwnI.of_own h6 (by simp)
      refine hk v' w' ?_ ⟨h7.os, h7.tape, h7.output, h7.size, fun k hk _ => h7.block k hk (by simp)⟩ (.inr ⟨g', h9, h10⟩)
      rcases h8 with h8 | ⟨g', o', cap', cur', e1, e2, e3⟩
      · exact .inl h8
      · exact .inr ⟨g', o', cap', cur', e1, Nat.le_trans hB e2, e3⟩
end Go.Proofs.Ytbcofdecdknkeaa
