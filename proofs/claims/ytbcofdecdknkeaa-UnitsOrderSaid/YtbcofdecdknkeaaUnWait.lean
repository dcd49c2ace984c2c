/- units: Wait, Take, New: what they answer, and what they leave. -/
import Derived.Test.YtbcofdecdknkeaaUnMem
import Derived.StillTailTactics
namespace Go.Proofs.Ytbcofdecdknkeaa
open Go.RowKit Go.Deep Go.Maps

theorem cell_alloc {w : World} {a : Addr} {v : Value} (h : w.cell? a = some v) (o : Obj) : (w.alloc o).cell? a = some v := (World.cell?_of_block (w := w) (Below.heap_alloc w o a.block (World.block_lt_of_cell? w a h))).trans h

theorem ret_int {k : IntKind} {a b : Int} (h : a = b) : Ending.returned (.int k a) = .returned (.int k b) := by rw [h]

set_option maxHeartbeats 1000000 in
set_option maxRecDepth 100000 in
theorem wait_any (b n : Nat) (f : Int → ByteArray → List Int) (F : Nat → Prop) (m : Option Nat) (lun : Int) (host : ByteArray) (w : World) (h : UnitsAt w b n f F m) (hl : (Lit.int .i64 lun).wf = true) (hh : host.size ≤ maxLen) :
    Calls Try.prog 11 #[.pointer (some ⟨b, 0, none⟩), .int .i64 lun, .string host] w fun e w' => e = .returned (.int .i64 (f lun host).length) ∧ w = w' := by
  obtain ⟨v, hv, hlook⟩ := h.map.look hl hh
  obtain ⟨A, cap, rfl⟩ := hv.slice
  have hrun := hlook w (fun _ _ => rfl)
  have hc : w.cell? ⟨b, 0, none⟩ = some (.map m) := cell_of_row w b 0 _ _ _ h.blk
  have H := Lib.hid h
  have Hv := Lib.hid hv
  have hfair := h.fair.short lun host
  have Hl := Lib.hid hl
  clear h hv hlook hl
  unfold keyV at hrun
  go_enter Try.func11, Try.ntmps11
  go_wp2
  go_ret
  exact ⟨rfl, rfl⟩

set_option maxHeartbeats 1000000 in
set_option maxRecDepth 100000 in
theorem take_none (b n : Nat) (f : Int → ByteArray → List Int) (F : Nat → Prop) (m : Option Nat) (lun : Int) (host : ByteArray) (w : World) (h : UnitsAt w b n f F m) (hl : (Lit.int .i64 lun).wf = true) (hh : host.size ≤ maxLen) (h0 : f lun host = []) :
    Calls Try.prog 9 #[.pointer (some ⟨b, 0, none⟩), .int .i64 lun, .string host] w fun e w' => e = .returned (.tuple #[.int .i64 0, .bool false]) ∧ w = w' := by
  have hw := wait_any b n f F m lun host w h hl hh
  rw [h0] at hw
  have Hw := Lib.hid hw
  clear hw h h0 hl
  go_enter Try.func9, Try.ntmps9
  go_wp2_with (go_at_call 11; refine Hw.out.mono ?_; rintro e w1 ⟨rfl, rfl⟩)
  go_ret2
  exact ⟨rfl, rfl⟩

set_option maxHeartbeats 1000000 in
set_option maxRecDepth 100000 in
theorem take_one (b n : Nat) (f : Int → ByteArray → List Int) (F : Nat → Prop) (m : Option Nat) (lun : Int) (host : ByteArray) (w : World) (h : UnitsAt w b n f F m) (hl : (Lit.int .i64 lun).wf = true) (hh : host.size ≤ maxLen) (x : Int) (h0 : f lun host = [x]) :
    Calls Try.prog 9 #[.pointer (some ⟨b, 0, none⟩), .int .i64 lun, .string host] w (Left w b n F (upd f lun host []) (.tuple #[.int .i64 x, .bool true])) := by
  have hw := wait_any b n f F m lun host w h hl hh
  rw [h0] at hw
  have Hw := Lib.hid hw
  obtain ⟨v, hv, hlook⟩ := h.map.look hl hh
  rw [h0] at hv
  rcases hv with ⟨_, hv⟩ | ⟨g, o, cap, rfl, _, hcap, hFg, hg, hcell⟩
  · cases hv
  have hx := hcell 0 (by simp)
  simp only [List.getD_cons_zero, Nat.add_zero] at hx
  obtain ⟨mb, rfl⟩ := h.some_ (by rw [h0]; simp)
  obtain ⟨D, him⟩ := h.made
  have hmb := mb_ne h him
  have hc : w.cell? ⟨b, 0, none⟩ = some (.map (some mb)) := cell_of_row w b 0 _ _ _ h.blk
  clear hw h0 hcell
  have H := Lib.hid h
  have Hl := Lib.hid hl
  have Him := Lib.hid him
  clear h hl him
  unfold keyV at hlook
  go_enter Try.func9, Try.ntmps9
  go_wp2_with (go_at_call 11; refine Hw.out.mono ?_; rintro e w1 ⟨rfl, rfl⟩)
  have hB := (Below.refl w.heap.size w).alloc (Nat.le_refl _) (Obj.cells #[Value.int IntKind.i64 lun, Value.string host] 50)
  have e4 : (w.alloc (Obj.cells #[Value.int IntKind.i64 lun, Value.string host] 50)).cell? ⟨w.heap.size, 0, none⟩ = some (.int .i64 lun) := by simp
  have e5 : (w.alloc (Obj.cells #[Value.int IntKind.i64 lun, Value.string host] 50)).cell? ⟨w.heap.size, 1, none⟩ = some (.string host) := by simp
  generalize w.alloc (Obj.cells #[Value.int IntKind.i64 lun, Value.string host] 50) = W at *
  have e0 : W.cell? ⟨b, 0, none⟩ = some (.map (some mb)) := (hB.cell (blk_lt' H.out.blk)).trans hc
  have e2 : W.cell? ⟨g, o, none⟩ = some (.int .i64 x) := (hB.cell hg).trans hx
  have e3 : ∀ nq, (Instr.lookup 46 (.map (some mb)) (.agg #[.int .i64 lun, .string host]) false).run Try.prog (W.drewN nq) = .ok (.slice (some ⟨g, o, none⟩) 1 cap) (W.drewN nq) := fun nq => hlook _ (fun mb' hmb' => by cases hmb'; exact hB.block mb Him.out.owns.lt)
  go_quiet (fail)
  go_wp2
  have hB2 := pw_below_drewN hB nq
  have f0 : (W.drewN nq).cell? ⟨b, 0, none⟩ = some (.map (some mb)) := e0
  have f2 : (W.drewN nq).cell? ⟨g, o, none⟩ = some (.int .i64 x) := e2
  have f4 : (W.drewN nq).cell? ⟨w.heap.size, 0, none⟩ = some (.int .i64 lun) := e4
  have f5 : (W.drewN nq).cell? ⟨w.heap.size, 1, none⟩ = some (.string host) := e5
  clear e0 e2 e3 e4 e5 hB
  generalize W.drewN nq = W2 at *
  go_still_tail 5, (by kernel_rfl)
  change wpList _ _ _ _ _ W2.drew
  have hB3 : Below w.heap.size w W2.drew := hB2.drew
  have f6 : W2.drew.cell? ⟨g, o, none⟩ = some (.int .i64 x) := f2
  clear f0 f2 f4 f5 hB2
  generalize W2.drew = W3 at *
  have hown3 := own_stay Him.out.owns (hB3.block mb Him.out.owns.lt)
  refine wpList_delete_own W3 rfl (.tmp 30) (.tmp 31) 46 50 rfl 34 u_law Try.underlying46 RV mb n D rfl hown3 _ (keyL lun host) rfl (key_ok Hl.out hh) ?_
  intro w4 hown4 hturn4
  have hM4 : Mod (fun k => k = mb) W3 w4 := Mod.of_grown hturn4.grown (fun k e => (Option.some.inj e).symm)
  have g6 := keep_map hown3 hM4 f6
  have hM : Mod (fun k => k = mb) w w4 := (Mod.of_new (F := fun k => k = mb) hB3).trans hM4 (fun _ _ h => h)
  clear hturn4 hM4 f6
  go_wp2
  go_ret2
  exact left_map H.out ((Him.out.del Hl.out hh hown4 hM).mono (fun _ _ h => .inl h)) hM Him.out.inF hmb (H.out.fair.upd (by simp) (fun h => absurd rfl h)) _

set_option maxHeartbeats 1000000 in
set_option maxRecDepth 100000 in
theorem take_more (b n : Nat) (f : Int → ByteArray → List Int) (F : Nat → Prop) (m : Option Nat) (lun : Int) (host : ByteArray) (w : World) (h : UnitsAt w b n f F m) (hn : n < maxLen) (hl : (Lit.int .i64 lun).wf = true) (hh : host.size ≤ maxLen) (x : Int) (r : List Int) (h0 : f lun host = x :: r) (hr : r ≠ []) :
    Calls Try.prog 9 #[.pointer (some ⟨b, 0, none⟩), .int .i64 lun, .string host] w (Left w b (n + 1) F (upd f lun host r) (.tuple #[.int .i64 x, .bool true])) := by
  have hw := wait_any b n f F m lun host w h hl hh
  rw [h0] at hw
  obtain ⟨v, hv, hlook⟩ := h.map.look hl hh
  rw [h0] at hv
  rcases hv with ⟨_, hv⟩ | ⟨g, o, cap, rfl, _, hcap, hFg, hg, hcell⟩
  · cases hv
  have hx := hcell 0 (by simp)
  simp only [List.getD_cons_zero, Nat.add_zero] at hx
  obtain ⟨mb, rfl⟩ := h.some_ (by rw [h0]; simp)
  obtain ⟨D, him⟩ := h.made
  have hmb := mb_ne h him
  have hc : w.cell? ⟨b, 0, none⟩ = some (.map (some mb)) := cell_of_row w b 0 _ _ _ h.blk
  have hL9 : (x :: r).length ≤ 8 := by rw [← h0]; exact h.fair.short _ _
  have hgood := h.fair.good lun host (by rw [h0]; simp)
  obtain ⟨L, hL⟩ : ∃ L, L = (x :: r).length := ⟨_, rfl⟩
  have hL2 : 1 < L := by rw [hL]; cases r; exact absurd rfl hr; simp
  rw [← hL] at hw hlook hcap hL9
  have hcap1 : 1 < cap := by omega
  have Hw := Lib.hid hw
  have HL := Lib.hid hL
  have Hcell := Lib.hid hcell
  have H0 := Lib.hid h0
  have H := Lib.hid h
  have Hl := Lib.hid hl
  have Him := Lib.hid him
  clear hw h0 hcell hL h hl him
  unfold keyV at hlook
  have d1 : ((L : Int) == 0) = false := by simp; omega
  have d2 : ((L : Int) == 1) = false := by simp; omega
  have i1 : (1 : Int) ≤ (L : Int) := by omega
  have i2 : (0 : Int) < (L : Int) := by omega
  have hne1 : ¬ cap = 1 := by omega
  go_enter Try.func9, Try.ntmps9
  go_wp2_with (go_at_call 11; refine Hw.out.mono ?_; rintro e w1 ⟨rfl, rfl⟩)
  have hB := (Below.refl w.heap.size w).alloc (Nat.le_refl _) (Obj.cells #[Value.int IntKind.i64 lun, Value.string host] 50)
  have e4 : (w.alloc (Obj.cells #[Value.int IntKind.i64 lun, Value.string host] 50)).cell? ⟨w.heap.size, 0, none⟩ = some (.int .i64 lun) := by simp
  have e5 : (w.alloc (Obj.cells #[Value.int IntKind.i64 lun, Value.string host] 50)).cell? ⟨w.heap.size, 1, none⟩ = some (.string host) := by simp
  generalize w.alloc (Obj.cells #[Value.int IntKind.i64 lun, Value.string host] 50) = W at *
  have e0 : W.cell? ⟨b, 0, none⟩ = some (.map (some mb)) := (hB.cell (blk_lt' H.out.blk)).trans hc
  have e2 : W.cell? ⟨g, o, none⟩ = some (.int .i64 x) := (hB.cell hg).trans hx
  have e3 : ∀ nq, (Instr.lookup 46 (.map (some mb)) (.agg #[.int .i64 lun, .string host]) false).run Try.prog (W.drewN nq) = .ok (.slice (some ⟨g, o, none⟩) L cap) (W.drewN nq) := fun nq => hlook _ (fun mb' hmb' => by cases hmb'; exact hB.block mb Him.out.owns.lt)
  go_quiet (fail)
  go_wp2
  have hB2 := pw_below_drewN hB nq
  have f0 : (W.drewN nq).cell? ⟨b, 0, none⟩ = some (.map (some mb)) := e0
  have f2 : (W.drewN nq).cell? ⟨g, o, none⟩ = some (.int .i64 x) := e2
  have f4 : (W.drewN nq).cell? ⟨w.heap.size, 0, none⟩ = some (.int .i64 lun) := e4
  have f5 : (W.drewN nq).cell? ⟨w.heap.size, 1, none⟩ = some (.string host) := e5
  clear e0 e2 e3 e4 e5 hB
  generalize W.drewN nq = W2 at *
  go_still_tail 7, (by kernel_rfl)
  change wpList _ _ _ _ _ W2.drew
  have hB3 : Below w.heap.size w W2.drew := hB2.drew
  have f6 : W2.drew.cell? ⟨g, o, none⟩ = some (.int .i64 x) := f2
  clear f0 f2 f4 f5 hB2
  generalize W2.drew = W3 at *
  have hown3 := own_stay Him.out.owns (hB3.block mb Him.out.owns.lt)
  refine wpList_mapUpdate_in W3 rfl (.tmp 35) (.tmp 36) (.tmp 38) 46 rfl 50 34 u_law Try.underlying46 RV mb n D rfl hown3 hn _ (.slice (some ⟨g, o + 1, none⟩) (L - 1) (cap - 1)) (keyL lun host) rfl rfl (key_ok Hl.out hh) (.held (.slice (some ⟨g, o + 1, none⟩) (L - 1) (cap - 1))) [] rfl ?_
  intro w4 hown4 hturn4
  have hM4 : Mod (fun k => k = mb) W3 w4 := Mod.of_grown hturn4.grown (fun k e => (Option.some.inj e).symm)
  have g6 := keep_map hown3 hM4 f6
  have hM : Mod (fun k => k = mb) w w4 := (Mod.of_new (F := fun k => k = mb) hB3).trans hM4 (fun _ _ h => h)
  clear hturn4 hM4 f6
  go_wp2
  go_ret2
  have hv4 : Ints w4 (fun k => F k ∨ (w.heap.size ≤ k ∧ k < w4.heap.size)) (.slice (some ⟨g, o + 1, none⟩) (L - 1) (cap - 1)) r := by
    have hl := HL.out
    simp only [List.length_cons] at hl
    refine .inr ⟨g, o + 1, cap - 1, by rw [hl]; rfl, by omega, by omega, .inl hFg, Nat.lt_of_lt_of_le hg hM.size, fun i hi => ?_⟩
    have := keep_map Him.out.owns hM (Hcell.out (i + 1) (by simp; omega))
    simpa [Nat.add_assoc, Nat.add_comm 1 i] using this
  exact left_map H.out (Him.out.put Hl.out hh hown4 hM (fun _ _ h => .inl h) hv4 hr) hM Him.out.inF hmb (H.out.fair.upd (by have := HL.out; simp at this; omega) (fun _ => hgood)) _

theorem take_any (b n : Nat) (f : Int → ByteArray → List Int) (F : Nat → Prop) (m : Option Nat) (lun : Int) (host : ByteArray) (w : World) (h : UnitsAt w b n f F m) (hn : n < maxLen) (hl : (Lit.int .i64 lun).wf = true) (hh : host.size ≤ maxLen) :
    Calls Try.prog 9 #[.pointer (some ⟨b, 0, none⟩), .int .i64 lun, .string host] w (Left w b (n + 1) F (upd f lun host (f lun host).tail) (.tuple #[.int .i64 ((f lun host).headD 0), .bool (!(f lun host).isEmpty)])) := by
  rcases h0 : f lun host with _ | ⟨x, r⟩
  · refine (take_none b n f F m lun host w h hl hh h0).mono ?_
    rintro e w' ⟨rfl, rfl⟩
    rw [List.tail_nil, upd_id _ _ _ _ h0]
    exact left_same h (Nat.le_succ _) _
  · by_cases hr : r = []
    · subst hr
      refine (take_one b n f F m lun host w h hl hh x h0).mono ?_
      rintro e w' ⟨rfl, ⟨m', h1⟩, h2⟩
      exact ⟨rfl, ⟨m', h1.more (Nat.le_succ _)⟩, h2⟩
    · exact take_more b n f F m lun host w h hn hl hh x r h0 hr

theorem new_any (w : World) : Calls Try.prog 6 #[] w fun e w' => e = .returned (.pointer (some ⟨w.heap.size, 0, none⟩)) ∧ UnitsAt w' w.heap.size 0 (fun _ _ => []) (fun k => k = w.heap.size) none ∧ Below w.heap.size w w' ∧ w.heap.size < w'.heap.size := by
  go_enter Try.func6, Try.ntmps6
  go_wp2
  go_ret
  refine ⟨rfl, ⟨heap_alloc_new w _, rfl, .inl ⟨rfl, rfl⟩, ⟨fun _ _ => by simp, fun _ _ h => absurd rfl h⟩⟩, (Below.refl _ _).alloc (Nat.le_refl _) _, by simp⟩
end Go.Proofs.Ytbcofdecdknkeaa
