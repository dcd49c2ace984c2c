/- frames: a row of bytes that a conversion laid (one place behind its last cell is marked), and a text appended to it. -/
import Derived.Test.YtgcldacpaommiaaDoorFrPad
import Derived.Lib.AppendStr
import Derived.Deep.AppendLies
import Derived.Laws.IdiomStrings
namespace Go.Proofs.YtgcldacpaommiaaDoor
open Go.RowKit Go.Deep

/-- a slice of bytes owns the bytes l; what is frozen of its row lies behind its last cell. -/
def OwnB (w : World) (base : Nat) (v : Value) (l : List UInt8) : Prop :=
  ∃ g cap cur fz, v = .slice (some ⟨g, 0, none⟩) l.length cap ∧ base ≤ g ∧ w.heap[g]? = some (.cells cur 5 fz) ∧ (fz.2 = 0 ∨ cap ≤ fz.1) ∧ l.length ≤ cap ∧ cap ≤ maxLen ∧ cur.size = cap ∧ cur.toList.take l.length = bytesV l
theorem OwnB.lt {w : World} {base : Nat} {v : Value} {l : List UInt8} (h : OwnB w base v l) : ∃ g cap, v = .slice (some ⟨g, 0, none⟩) l.length cap ∧ base ≤ g ∧ g < w.heap.size := by
  obtain ⟨g, cap, cur, fz, h1, h2, h3, _⟩ := h
  exact ⟨g, cap, h1, h2, (Array.getElem?_eq_some_iff.1 h3).1⟩
theorem OwnB.below {w w' : World} {base : Nat} {v : Value} {l : List UInt8} (h : OwnB w base v l) (hb : Below w.heap.size w w') : OwnB w' base v l := by
  obtain ⟨g, cap, cur, fz, h1, h2, h3, h4⟩ := h
  exact ⟨g, cap, cur, fz, h1, h2, (hb.block g (Array.getElem?_eq_some_iff.1 h3).1).trans h3, h4⟩
theorem OwnB.cell {w : World} {base : Nat} {l : List UInt8} {g cap : Nat} (h : OwnB w base (.slice (some ⟨g, 0, none⟩) l.length cap) l) (i : Nat) (hi : i < l.length) : w.cell? ⟨g, i, none⟩ = some (.int .u8 ((l.getD i 0).toNat : Int)) := by
  obtain ⟨g', cap', cur, fz, h1, h2, h3, _, _, _, _, h4⟩ := h
  injection h1 with h1 _ _
  injection h1 with h1
  injection h1 with h1 _ _
  subst h1
  have e : cur[i]? = (bytesV l)[i]? := by
    rw [← h4, List.getElem?_take_of_lt hi]
    simp
  rw [bytesV_at l i hi] at e
  simp [World.cell?, h3, e]

theorem store_room (P : Program) (g o : Nat) (t : TypeId) (fz : Nat × Nat) : ∀ (vs : List Value) (i : Nat) (cur : Array Value) (w : World), w.heap[g]? = some (.cells cur t fz) → (fz.2 = 0 ∨ cur.size ≤ fz.1) → o + i + vs.length ≤ cur.size → (∀ v ∈ vs, v.oneCell' = true) →
    (storeCells ⟨g, o, none⟩ vs i).run P w = .ok () (w.setRow g (cur.toList.take (o + i) ++ vs ++ cur.toList.drop (o + i + vs.length)).toArray)
  | [], i, cur, w, hg, _, _, _ => by
    simp only [storeCells, List.append_nil, List.length_nil, Nat.add_zero, List.take_append_drop, Array.toArray_toList]
    rw [setRow_self w g cur t fz hg]
    rfl
  | v :: rest, i, cur, w, hg, hfz, hl, h1 => by
    have hi : o + i < cur.size := by simp at hl; omega
    have hadd : (⟨g, o, none⟩ : Addr).add i = ⟨g, o + i, none⟩ := by unfold Addr.add; split <;> simp_all
    have hcell : w.cell? ⟨g, o + i, none⟩ = some cur[o + i] := by simp [World.cell?, hg, hi]
    have hfro : w.frozen? ⟨g, o + i, none⟩ = false := by
      obtain ⟨lo, hi'⟩ := fz
      simp only [World.frozen?, hg, Bool.and_eq_false_iff, decide_eq_false_iff_not]
      simp only at hfz
      rcases hfz with hfz | hfz
      · right; omega
      · left; omega
    have hst : (store ((⟨g, o, none⟩ : Addr).add i) v).run P w = .ok () (w.setRow g (cur.setIfInBounds (o + i) v)) := by
      rw [hadd, run_store P w _ v _ (h1 v (by simp)), hcell]
      simp [hfro, setCell_eq_setRow w g (o + i) cur t fz v hg]
    have ih := store_room P g o t fz rest (i + 1) (cur.setIfInBounds (o + i) v) (w.setRow g (cur.setIfInBounds (o + i) v)) (setRow_heap w g cur _ t _ hg) (by simpa using hfz) (by simp at hl ⊢; omega) (fun x hx => h1 x (by simp [hx]))
    simp only [storeCells, Sem.run_bind, hst, Result.andThen_ok, ih, setRow_setRow]
    congr 3
    have e := list_seg_step cur.toList (o + i) v rest (by simp at hl ⊢; omega)
    simpa [Array.toList_setIfInBounds, Nat.add_assoc] using e

theorem strCells_V (s : ByteArray) : Lib.strCells s = bytesV s.data.toList := by simp [Lib.strCells, bytesV]
theorem bytesV_app (a b : List UInt8) : bytesV (a ++ b) = bytesV a ++ bytesV b := by simp [bytesV]

/-- append(b, s...): whatever the capacity. -/
theorem run_append_text (w : World) (ty : TypeId) (base : Nat) (v : Value) (l : List UInt8) (h : OwnB w base v l) (s : ByteArray) (hl : l.length + s.size ≤ 100000000) (hbase : base ≤ w.heap.size) :
    ∃ v' w', (Builtin.append_ #[40, 9] ty #[v, .string s]).run Tryd.prog w = .ok v' w' ∧ OwnB w' base v' (l ++ s.data.toList) ∧ w.grownBy w' v.ownBlock := by
  obtain ⟨g, cap, cur, fz, rfl, hbg, hg, hfz, hnc, hcm, hcs, htake⟩ := h
  obtain ⟨i0, hi, hz0, hz1, hz2⟩ := info_parts b_info
  have hlen : (l ++ s.data.toList).length = l.length + s.size := by rw [List.length_append, data_len]
  by_cases hroom : l.length + s.size ≤ cap
  · have hf := Lib.run_firstCells_string (P := Tryd.prog) w 1 s
    have hst := store_room Tryd.prog g l.length 5 fz (Lib.strCells s) 0 cur w hg (by rw [hcs]; exact hfz) (by rw [Lib.strCells_length]; omega) (Lib.strCells_oneCell s)
    simp only [Nat.add_zero, Lib.strCells_length] at hst
    have hr : (Builtin.append_ #[40, 9] ty #[.slice (some ⟨g, 0, none⟩) l.length cap, .string s]).run Tryd.prog w =
      .ok (.slice (some ⟨g, 0, none⟩) (l.length + s.size) cap) (w.setRow g (cur.toList.take l.length ++ Lib.strCells s ++ cur.toList.drop (l.length + s.size)).toArray) := by
      simp [Builtin.append_, run_underlying Tryd.underlying40, run_underlying Tryd.underlying9, sizeOf, typeInfo, hi, hz1, Builtin.lenOf, hroom, hf, Addr.add_lit, hst]
    refine ⟨_, _, hr, ⟨g, cap, _, fz, by rw [hlen], hbg, setRow_heap w g cur _ _ _ hg, hfz, by omega, hcm, ?_, ?_⟩, ⟨rfl, rfl, rfl, by simp, fun k _ hk => setRow_other w g k _ (fun e => hk (by simp [Value.ownBlock, e]))⟩⟩
    · simp only [List.size_toArray, List.length_append, List.length_take, List.length_drop, Array.length_toList, Lib.strCells_length]
      omega
    · rw [htake, bytesV_app, strCells_V, hlen]
      have hl2 : (bytesV l ++ bytesV s.data.toList).length = l.length + s.size := by rw [List.length_append, bytesV_length, bytesV_length, data_len]
      rw [← hl2]
      exact List.take_left
  · have holds : ∀ j u, (bytesV l)[j]? = some u → w.cell? ((⟨g, 0, none⟩ : Addr).add j) = some u := fun j u hu => by
      have hj : j < l.length := by
        have := (List.getElem?_eq_some_iff.1 hu).1
        rwa [bytesV_length] at this
      have hadd : (⟨g, 0, none⟩ : Addr).add j = ⟨g, j, none⟩ := by unfold Addr.add; split <;> simp_all
      rw [hadd, OwnB.cell (base := base) ⟨g, cap, cur, fz, rfl, hbg, hg, hfz, hnc, hcm, hcs, htake⟩ j hj, ← bytesV_at l j hj, hu]
    have hr := Lib.run_append_grow_string (P := Tryd.prog) w 40 9 ty 5 i0 (.int .u8 0) Tryd.underlying40 Tryd.underlying9 hi hz0 ⟨g, 0, none⟩ l.length cap (bytesV l) (by rw [hz1, bytesV_length]; omega) holds s (by omega) (by omega) (by rw [hz2]; exact growslice_fits (by omega) (by omega))
    have hge := grownCap_ge w (l.length + s.size) cap 5
    have hcm2 : grownCap w (l.length + s.size) cap 5 ≤ maxLen := grownCap_le_maxLen w (l.length + s.size) cap _ (by unfold maxLen; omega)
    refine ⟨_, _, hr, ⟨w.heap.size, _, _, (0, 0), by rw [hlen], hbase, heap_alloc_new w.drew _, .inl rfl, by omega, hcm2, ?_, ?_⟩, ⟨rfl, rfl, rfl, by simp, fun k hk _ => Below.heap_alloc w.drew _ k hk⟩⟩
    · have hz1 : (Value.int IntKind.u8 0).cells.size = 1 := rfl
      simp only [Array.size_append, List.size_toArray, size_zeroCells, hz1, bytesV_length, Lib.strCells_length]
      omega
    · simp only [Array.toList_append, List.append_assoc]
      have hl2 : (bytesV l ++ bytesV s.data.toList).length = (l ++ s.data.toList).length := by rw [List.length_append, bytesV_length, bytesV_length, List.length_append]
      rw [strCells_V, bytesV_app, ← List.append_assoc, ← hl2]
      exact List.take_left

theorem step_append_text {ops : Array Oper} {o : Oper} {a : Act} {w : World} {K : Act → World → Prop} {Q : Exit → Act → World → Prop} {E : Prop} (hgd : o.guard = none) (sl x : Operand)
    (ho : o.op = .call { callee := .builtin .append, args := #[sl, x], argTypes := #[40, 9] })
    (base : Nat) (v : Value) (l : List UInt8) (hs : a.eval sl = v) (h : OwnB w base v l) (s : ByteArray) (hx : a.eval x = .string s) (hl : l.length + s.size ≤ 100000000) (hbase : base ≤ w.heap.size)
    (hk : ∀ v' w', OwnB w' base v' (l ++ s.data.toList) → w.grownBy w' v.ownBlock → K (a.put o.dst v') w') :
    if Region.wanted o (yielded ops a.tmps) = true then Oper.wp Tryd.prog o a w K Q else E := by
  have hw : Region.wanted o (yielded ops a.tmps) = true := by simp [Region.wanted, hgd]
  rw [if_pos hw]
  obtain ⟨v', w', hr, h2, h3⟩ := run_append_text w o.type base v l h s hl hbase
  unfold Oper.wp execOp
  simp only [ho, resolve, invoke, builtin, Sem.run_bind, Sem.run_pure, Result.andThen_ok, List.map_toArray, List.map_cons, List.map_nil, hs, hx, hr]
  exact hk _ _ h2 h3

/-! ### a text's bytes in memory -/
def cvC (s : ByteArray) (w : World) : Nat := grownCap w s.size 0 5
def cvW (s : ByteArray) (w : World) : World := w.drew.alloc (.cells (bytesRow s (cvC s w)) 5 ((bytesRow s (cvC s w)).size, (bytesRow s (cvC s w)).size + 1))
theorem cv_run (s : ByteArray) (w : World) : (convert 9 40 (.string s)).run Tryd.prog w = .ok (.slice (some ⟨w.heap.size, 0, none⟩) s.size (cvC s w)) (cvW s w) :=
  run_bytes_of_string w 9 40 5 s Tryd.underlying9 Tryd.underlying40 Tryd.underlying5
theorem cv_block (s : ByteArray) (w : World) : (cvW s w).heap[w.heap.size]? = some (.cells (bytesRow s (cvC s w)) 5 ((bytesRow s (cvC s w)).size, (bytesRow s (cvC s w)).size + 1)) := by
  show (w.heap.push _)[w.heap.size]? = _
  simp
theorem cv_below (s : ByteArray) (w : World) : Below w.heap.size w (cvW s w) := (Below.drew (Below.refl w.heap.size w)).alloc (Nat.le_refl _) _
theorem cv_size (s : ByteArray) (w : World) : (cvW s w).heap.size = w.heap.size + 1 := by unfold cvW; simp
theorem cv_own (s : ByteArray) (w : World) (hs : s.size ≤ 100000000) : OwnB (cvW s w) w.heap.size (.slice (some ⟨w.heap.size, 0, none⟩) s.size (cvC s w)) s.data.toList := by
  have hge := grownCap_ge w s.size 0 5
  have hle := grownCap_le_maxLen w s.size 0 5 (by unfold maxLen; omega)
  have hsz : (bytesRow s (cvC s w)).size = cvC s w := by
    unfold bytesRow cvC
    rw [Array.size_append, Array.size_map, Array.size_replicate]
    show s.size + _ = _
    omega
  refine ⟨w.heap.size, cvC s w, _, _, by rw [data_len], Nat.le_refl _, cv_block s w, .inr (by show _ ≤ (bytesRow s (cvC s w)).size; omega), by rw [data_len]; exact hge, hle, hsz, ?_⟩
  unfold bytesRow bytesV
  rw [Array.toList_append, List.take_append_of_le_length (by simp), List.take_of_length_le (by simp)]
  simp
theorem own_text {w : World} {base : Nat} {v : Value} {l : List UInt8} (h : OwnB w base v l) : (convert 40 9 v).run Tryd.prog w = .ok (.string (S l)) w := by
  obtain ⟨g, cap, rfl, _, _⟩ := h.lt
  have := run_convert_bytes_arg (P := Tryd.prog) w 40 5 Tryd.underlying40 Tryd.underlying5 g 0 l.length cap (l.map fun c => (c.toNat : Int)) (by simp) (fun i hi => by
    rw [Nat.zero_add, h.cell i hi]
    simp [List.getD_eq_getElem?_getD, List.getElem?_eq_getElem hi]) 9 Tryd.underlying9
  rw [str_bytes] at this
  exact this
end Go.Proofs.YtgcldacpaommiaaDoor
