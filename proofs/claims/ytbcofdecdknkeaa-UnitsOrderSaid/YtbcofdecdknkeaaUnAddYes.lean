/- units: Add: the calls that go through, way by way. (The ways' texts are printed by a program of this session: wip/gen/gen_add.py.) -/
import Derived.Test.YtbcofdecdknkeaaUnAddNo
import Derived.Deep.AppendLies
namespace Go.Proofs.Ytbcofdecdknkeaa
open Go.RowKit Go.Deep Go.Maps

theorem u_map_nil (w : World) (m : Option Nat) : (binOp .eql 46 (.map m) (.map none)).run Try.prog w = .ok (.bool m.isNone) w :=
  run_eql_map_nil w _ 50 34 m Try.underlying46

theorem cell_set_other {w : World} {a p : Addr} {v : Value} (h : a.block ≠ p.block) (hc : w.cell? a = some v) (u : Value) : (w.setCell p u).cell? a = some v :=
  (World.cell?_of_block (w := w) (Below.heap_setCell w p u a.block h)).trans hc

/-- a first map is made: the Units is as it was, over a map that holds nothing. -/
theorem made_map {w W2 : World} {b n : Nat} {F : Nat → Prop} {f : Int → ByteArray → List Int} (h : UnitsAt w b n f F none) (hb : Below w.heap.size w W2) :
    UnitsAt ((W2.setCell ⟨b, 0, none⟩ (.map (some W2.heap.size))).alloc (.map #[] 0)) b n f (fun k => F k ∨ (w.heap.size ≤ k ∧ k < ((W2.setCell ⟨b, 0, none⟩ (.map (some W2.heap.size))).alloc (.map #[] 0)).heap.size)) (some W2.heap.size) ∧ Mod F w ((W2.setCell ⟨b, 0, none⟩ (.map (some W2.heap.size))).alloc (.map #[] 0)) := by
  have hbw := blk_lt' h.blk
  have hs := hb.size
  have hf : f = fun _ _ => [] := by
    rcases h.map with ⟨_, hf⟩ | ⟨mb, D, hm, _⟩
    · exact hf
    · cases hm
  have hblk : W2.heap[b]? = some (.cells #[.map none] 48 (0, 0)) := (hb.block b hbw).trans h.blk
  have hsz : (W2.setCell ⟨b, 0, none⟩ (.map (some W2.heap.size))).heap.size = W2.heap.size := by simp
  have hown : ((W2.setCell ⟨b, 0, none⟩ (.map (some W2.heap.size))).alloc (.map #[] 0)).ownsMap Try.prog 50 RV W2.heap.size 0 (.map []) := by
    have := World.ownsMap_made (W2.setCell ⟨b, 0, none⟩ (.map (some W2.heap.size))) Try.prog 50 RV
    rw [hsz] at this
    exact this
  refine ⟨⟨?_, .inl h.inF, .inr ⟨_, _, rfl, .inr ⟨hs, by simp⟩, hown.mono (Nat.zero_le _), fun lun host _ _ => ⟨nilS, rfl, by subst hf; exact Ints.nil _ _, by subst hf; simp [Maps.has]⟩⟩, h.fair⟩, ?_⟩
  · refine (Below.heap_alloc _ _ _ (by first | exact Nat.le_refl _ | omega | (simp; done) | (simp; omega))).trans ?_
    simp only [World.setCell, Array.getElem?_modify, if_true, hblk]
    rfl
  · exact ((Mod.of_new (F := F) hb).setCell (fun _ => h.inF) _).alloc _
theorem left_trans {w w3 w6 : World} {b n : Nat} {F : Nat → Prop} {f : Int → ByteArray → List Int} {v : Value} {e : Ending} (hM : Mod F w w3) (h : Left w3 b n (fun k => F k ∨ (w.heap.size ≤ k ∧ k < w3.heap.size)) f v e w6) : Left w b n F f v e w6 := by
  obtain ⟨h1, ⟨m, h2⟩, h3⟩ := h
  have s1 := hM.size
  have s3 := h3.size
  refine ⟨h1, ⟨m, h2.mono (fun k _ hk => ?_)⟩, hM.trans h3 (fun i hi hk => ?_)⟩
  · rcases hk with (hk | hk) | hk
    · exact .inl hk
    · exact .inr (by omega)
    · exact .inr (by omega)
  · rcases hk with hk | hk
    · exact hk
    · omega

set_option maxHeartbeats 2000000 in
set_option maxRecDepth 100000 in
theorem add_mid (b n mb : Nat) (f : Int → ByteArray → List Int) (F : Nat → Prop) (lun why : Int) (host : ByteArray) (w : World) (h : UnitsAt w b n f F (some mb)) (hn : n < maxLen) (h1 : 0 ≤ lun) (h2 : lun < 8) (h3 : 1 ≤ why) (h4 : why ≤ 4) (hh : host.size ≤ maxLen) (hnm : nameB host = true)
    (l : List Int) (h0 : f lun host = l) (hl1 : 1 ≤ l.length) (hl7 : l.length ≤ 7) (y : Int) (hy : l.getD (l.length - 1) 0 = y) (hyw : (y == why) = false) :
    Calls Try.prog 7 #[.pointer (some ⟨b, 0, none⟩), .int .i64 lun, .string host, .int .i64 why] w (Left w b (n + 1) F (upd f lun host (l ++ [why])) (.bool true)) := by
  have d1 : decide (lun < 0) = false := by simp; omega
  have d2 : decide (8 ≤ lun) = false := by simp; omega
  have d3 : decide (why < 1) = false := by simp; omega
  have d4 : decide (4 < why) = false := by simp; omega
  have hname := name_any host w hh
  rw [hnm] at hname
  have Hn := Lib.hid hname
  clear hname
  have hl : (Lit.int .i64 lun).wf = true := WalkArith.wf_i64 (by omega)
  obtain ⟨v, hv, hlook⟩ := h.map.look hl hh
  rw [h0] at hv
  rcases hv with ⟨_, hv⟩ | ⟨g, o, cap, rfl, _, hcap, hFg, hg, hcell⟩
  · subst hv; simp at hl1
  obtain ⟨D, him⟩ := h.made
  have hmb := mb_ne h him
  have hc : w.cell? ⟨b, 0, none⟩ = some (.map (some mb)) := cell_of_row w b 0 _ _ _ h.blk
  have hx := hcell (l.length - 1) (by omega)
  rw [hy] at hx
  obtain ⟨L, hL⟩ : ∃ L, L = l.length := ⟨_, rfl⟩
  rw [← hL] at hlook hcap hl1 hx
  rw [← hL] at hl7
  obtain ⟨l2, hl2⟩ : ∃ l2, l2 = l := ⟨_, rfl⟩
  have hl9 : l2.length ≤ 7 := by rw [hl2]; omega
  have Hv : Hid (Ints w F (.slice (some ⟨g, o, none⟩) L cap) l2) := .inr ⟨g, o, cap, by rw [hL, hl2], by rw [hl2]; omega, by rw [hl2]; omega, hFg, hg, by rw [hl2]; exact hcell⟩
  have hl8 : l2.length ≤ 8 := by omega
  have HL2 := Lib.hid hl2
  clear hl2
  have HL := Lib.hid hL
  have H0 := Lib.hid h0
  have H := Lib.hid h
  have Hl := Lib.hid hl
  have Hnm := Lib.hid hnm
  have Him := Lib.hid him
  have Hcell := Lib.hid hcell
  have Hy := Lib.hid hy
  clear hcell hL hy
  clear h0 h hl him hnm
  unfold keyV at hlook
  have hmn := u_map_nil
  have hmm := @run_makeMap Try.prog
  obtain ⟨i0, hi, hz0, hz1, hz2⟩ := info_parts u_info
  have q1 : decide (0 < (L : Int)) = true := by simp; omega
  have q3 : (0 : Int) ≤ (L : Int) - 1 := by omega
  have q4 : (L : Int) - 1 < (L : Int) := by omega
  have q2 : ((L : Int) == 8) = false := by simp; omega
  go_enter Try.func7, Try.ntmps7
  go_wp2_with (go_at_call 21; refine Hn.out.mono ?_; rintro e w1 ⟨rfl, hb1⟩)
  have hB := hb1.alloc hb1.size (Obj.cells #[Value.int IntKind.i64 lun, Value.string host] 50)
  have e4 : (w1.alloc (Obj.cells #[Value.int IntKind.i64 lun, Value.string host] 50)).cell? ⟨w1.heap.size, 0, none⟩ = some (.int .i64 lun) := by simp
  have e5 : (w1.alloc (Obj.cells #[Value.int IntKind.i64 lun, Value.string host] 50)).cell? ⟨w1.heap.size, 1, none⟩ = some (.string host) := by simp
  have hk := hb1.size
  have hk2 : w1.heap.size < (w1.alloc (Obj.cells #[Value.int IntKind.i64 lun, Value.string host] 50)).heap.size := by simp
  generalize w1.alloc (Obj.cells #[Value.int IntKind.i64 lun, Value.string host] 50) = W at *
  generalize w1.heap.size = kb at *
  clear hb1
  have e0 : W.cell? ⟨b, 0, none⟩ = some (.map (some mb)) := (hB.cell (blk_lt' H.out.blk)).trans hc
  have e2 : W.cell? ⟨g, o + (L - 1), none⟩ = some (.int .i64 y) := (hB.cell hg).trans hx
  have e3 : ∀ nq, (Instr.lookup 46 (.map (some mb)) (.agg #[.int .i64 lun, .string host]) false).run Try.prog (W.drewN nq) = .ok (.slice (some ⟨g, o, none⟩) L cap) (W.drewN nq) := fun nq => hlook _ (fun mb' hmb' => by cases hmb'; exact hB.block mb Him.out.owns.lt)
  go_quiet (fail)
  have hB2 := pw_below_drewN hB nq
  have f0 : (W.drewN nq).cell? ⟨b, 0, none⟩ = some (.map (some mb)) := e0
  have f2 : (W.drewN nq).cell? ⟨g, o + (L - 1), none⟩ = some (.int .i64 y) := e2
  have f4 : (W.drewN nq).cell? ⟨kb, 0, none⟩ = some (.int .i64 lun) := e4
  have f5 : (W.drewN nq).cell? ⟨kb, 1, none⟩ = some (.string host) := e5
  have hk3 : kb < (W.drewN nq).heap.size := hk2
  clear e0 e2 e3 e4 e5 hB hk2
  generalize W.drewN nq = W2 at *
  go_wp2_with fail
  have hbw : b < w.heap.size := blk_lt' H.out.blk
  go_region_held3 (fun wx => wx.cell? ⟨b, 0, none⟩ = some (.map (some mb)) ∧ wx.cell? ⟨kb, 0, none⟩ = some (.int .i64 lun) ∧ wx.cell? ⟨kb, 1, none⟩ = some (.string host))
    (first | go_keep | with_reducible exact ⟨m0, m4, m5⟩ | with_reducible exact ⟨k0, k4, k5⟩ | with_reducible exact ⟨g0, g4, g5⟩)
    (first
      | (go_at_call 22; refine (clone_any (kb + 1) _ ?_ F _ l2 ?_ ?_).mono ?_; (first | exact Nat.le_refl _ | omega | (simp; done) | (simp; omega) | exact (hB2.drew.alloc hB2.size _).size); (exact Hv.out.stay (Mod.of_new (F := fun _ => False) (by first | exact hB2.drew | exact hB2.drew.alloc hB2.size _)) (fun _ _ h => h)); exact hl8; rintro e wc ⟨vc, rfl, hownc, hbc⟩; have g0 : wc.cell? ⟨b, 0, none⟩ = some (.map (some mb)) := (hbc.cell (by first | exact Nat.le_refl _ | omega | (simp; done) | (simp; omega))).trans (by first | exact f0 | exact cell_alloc (w := W2.drew) f0 _); have g4 : wc.cell? ⟨kb, 0, none⟩ = some (.int .i64 lun) := (hbc.cell (by first | exact Nat.le_refl _ | omega | (simp; done) | (simp; omega))).trans (by first | exact f4 | exact cell_alloc (w := W2.drew) f4 _); have g5 : wc.cell? ⟨kb, 1, none⟩ = some (.string host) := (hbc.cell (by first | exact Nat.le_refl _ | omega | (simp; done) | (simp; omega))).trans (by first | exact f5 | exact cell_alloc (w := W2.drew) f5 _); have hwc : Below w.heap.size w wc := (by first | exact hB2.drew.trans (hbc.mono hB2.size) | exact (hB2.drew.alloc hB2.size _).trans (hbc.mono (hB2.drew.alloc hB2.size _).size)); have hwcs := hwc.size; have hkc : kb < wc.heap.size := (by have := hbc.size; simp at this; omega))
      | (refine step_append_lies _ (by rfl) _ _ _ (by rfl) (kb + 1) 3 i0 _ 1 8 Try.underlying34 hi hz0 hz1 hz2 rfl (by omega) vc l2.length (ints l2) (by rfl) (hownc.alloc _) ⟨wc.heap.size, 0, none⟩ 1 1 [.int .i64 why] (by rfl) (by rfl) (World.news_of_block (cs := #[.int .i64 why]) (t := 3) (fr := (0, 0)) (heap_alloc_new wc _)) (by simp [Value.oneCell']) (by omega) (by unfold maxLen; omega) (by omega) (by first | exact Nat.le_refl _ | omega | (simp; done) | (simp; omega)) (wc.heap.size + 1) (by simp) ?_; intro gg cap5 w5 hown5 hg5 _ _; have hb5 := grown_below' hwc hownc (by omega) hg5; have k0 := hg5.cell (cell_alloc g0 _) (own_ne hownc (by first | exact Nat.le_refl _ | omega | (simp; done) | (simp; omega))); have k4 := hg5.cell (cell_alloc g4 _) (own_ne hownc (by first | exact Nat.le_refl _ | omega | (simp; done) | (simp; omega))); have k5 := hg5.cell (cell_alloc g5 _) (own_ne hownc (by first | exact Nat.le_refl _ | omega | (simp; done) | (simp; omega))); obtain ⟨w6, hrun6, hown6, hturn6⟩ := (own_stay Him.out.owns (hb5.block mb Him.out.owns.lt)).store u_law Try.underlying46 hn (val := .slice (some ⟨gg, 0, none⟩) (l2.length + 1) cap5) (key_ok Hl.out hh) (d := .held (.slice (some ⟨gg, 0, none⟩) (l2.length + 1) cap5)) (ps := []) rfl; unfold keyV at hrun6; have hM6 : Mod (fun k => k = mb) w5 w6 := Mod.of_grown hturn6.grown (fun k e => (Option.some.inj e).symm); have m0 := keep_map (own_stay Him.out.owns (hb5.block mb Him.out.owns.lt)) hM6 k0; have m4 := keep_map (own_stay Him.out.owns (hb5.block mb Him.out.owns.lt)) hM6 k4; have m5 := keep_map (own_stay Him.out.owns (hb5.block mb Him.out.owns.lt)) hM6 k5)
      | (refine step_append_lies _ (by rfl) _ _ _ (by rfl) (kb + 1) 3 i0 _ 1 8 Try.underlying34 hi hz0 hz1 hz2 rfl (by omega) vc l2.length (ints l2) (by rfl) hownc ⟨W2.heap.size, 0, none⟩ 1 1 [.int .i64 why] (by rfl) (by rfl) (World.news_of_block (cs := #[.int .i64 why]) (t := 3) (fr := (0, 0)) ((hbc.block W2.heap.size (by simp)).trans (heap_alloc_new W2.drew _))) (by simp [Value.oneCell']) (by omega) (by unfold maxLen; omega) (by omega) (by omega) wc.heap.size rfl ?_; intro gg cap5 w5 hown5 hg5 _ _; have hb5 := grown_below hwc hownc (by omega) hg5; have k0 := hg5.cell g0 (own_ne hownc (by first | exact Nat.le_refl _ | omega | (simp; done) | (simp; omega))); have k4 := hg5.cell g4 (own_ne hownc (by first | exact Nat.le_refl _ | omega | (simp; done) | (simp; omega))); have k5 := hg5.cell g5 (own_ne hownc (by first | exact Nat.le_refl _ | omega | (simp; done) | (simp; omega))); obtain ⟨w6, hrun6, hown6, hturn6⟩ := (own_stay Him.out.owns (hb5.block mb Him.out.owns.lt)).store u_law Try.underlying46 hn (val := .slice (some ⟨gg, 0, none⟩) (l2.length + 1) cap5) (key_ok Hl.out hh) (d := .held (.slice (some ⟨gg, 0, none⟩) (l2.length + 1) cap5)) (ps := []) rfl; unfold keyV at hrun6; have hM6 : Mod (fun k => k = mb) w5 w6 := Mod.of_grown hturn6.grown (fun k e => (Option.some.inj e).symm); have m0 := keep_map (own_stay Him.out.owns (hb5.block mb Him.out.owns.lt)) hM6 k0; have m4 := keep_map (own_stay Him.out.owns (hb5.block mb Him.out.owns.lt)) hM6 k4; have m5 := keep_map (own_stay Him.out.owns (hb5.block mb Him.out.owns.lt)) hM6 k5)
      | fail)
  all_goals
    go_wp2
    go_ret
    rw [← HL2.out]
    exact add_end H.out Him.out Hl.out hh ⟨h1, h2, Hnm.out⟩ hl9 rfl hb5 (own_mono hown5 (by omega)) hown6 hturn6


set_option maxHeartbeats 2000000 in
set_option maxRecDepth 100000 in
theorem add_full (b n mb : Nat) (f : Int → ByteArray → List Int) (F : Nat → Prop) (lun why : Int) (host : ByteArray) (w : World) (h : UnitsAt w b n f F (some mb)) (hn : n < maxLen) (h1 : 0 ≤ lun) (h2 : lun < 8) (h3 : 1 ≤ why) (h4 : why ≤ 4) (hh : host.size ≤ maxLen) (hnm : nameB host = true)
    (l : List Int) (h0 : f lun host = l) (hl1 : l.length = 8) (y : Int) (hy : l.getD (l.length - 1) 0 = y) (hyw : (y == why) = false) :
    Calls Try.prog 7 #[.pointer (some ⟨b, 0, none⟩), .int .i64 lun, .string host, .int .i64 why] w (Left w b (n + 1) F (upd f lun host (l.tail ++ [why])) (.bool true)) := by
  have d1 : decide (lun < 0) = false := by simp; omega
  have d2 : decide (8 ≤ lun) = false := by simp; omega
  have d3 : decide (why < 1) = false := by simp; omega
  have d4 : decide (4 < why) = false := by simp; omega
  have hname := name_any host w hh
  rw [hnm] at hname
  have Hn := Lib.hid hname
  clear hname
  have hl : (Lit.int .i64 lun).wf = true := WalkArith.wf_i64 (by omega)
  obtain ⟨v, hv, hlook⟩ := h.map.look hl hh
  rw [h0] at hv
  rcases hv with ⟨_, hv⟩ | ⟨g, o, cap, rfl, _, hcap, hFg, hg, hcell⟩
  · subst hv; simp at hl1
  obtain ⟨D, him⟩ := h.made
  have hmb := mb_ne h him
  have hc : w.cell? ⟨b, 0, none⟩ = some (.map (some mb)) := cell_of_row w b 0 _ _ _ h.blk
  have hx := hcell (l.length - 1) (by omega)
  rw [hy] at hx
  obtain ⟨L, hL⟩ : ∃ L, L = l.length := ⟨_, rfl⟩
  rw [← hL] at hlook hcap hl1 hx
  obtain ⟨l2, hl2⟩ : ∃ l2, l2 = l.tail := ⟨_, rfl⟩
  have hl3 : l2.length = 7 := by rw [hl2, List.length_tail]; omega
  have hl9 : l2.length ≤ 7 := by omega
  have Hv : Hid (Ints w F (.slice (some ⟨g, o + 1, none⟩) (L - 1) (cap - 1)) l2) := .inr ⟨g, o + 1, cap - 1, by rw [hl3, hl1], by omega, by omega, hFg, hg, fun i hi => by
    have := hcell (i + 1) (by omega)
    have e : l.getD (i + 1) 0 = l2.getD i 0 := by rw [hl2]; simp
    rw [e, show o + (i + 1) = o + 1 + i from by omega] at this
    exact this⟩
  have hne1 : ¬ cap = 1 := by omega
  have i1 : (1 : Int) ≤ (L : Int) := by omega
  clear hl3
  have hl8 : l2.length ≤ 8 := by omega
  have HL2 := Lib.hid hl2
  clear hl2
  have HL := Lib.hid hL
  have H0 := Lib.hid h0
  have H := Lib.hid h
  have Hl := Lib.hid hl
  have Hnm := Lib.hid hnm
  have Him := Lib.hid him
  have Hcell := Lib.hid hcell
  have Hy := Lib.hid hy
  clear hcell hL hy
  clear h0 h hl him hnm
  unfold keyV at hlook
  have hmn := u_map_nil
  have hmm := @run_makeMap Try.prog
  obtain ⟨i0, hi, hz0, hz1, hz2⟩ := info_parts u_info
  have q1 : decide (0 < (L : Int)) = true := by simp; omega
  have q3 : (0 : Int) ≤ (L : Int) - 1 := by omega
  have q4 : (L : Int) - 1 < (L : Int) := by omega
  have q2 : ((L : Int) == 8) = true := by simp; omega
  have Hl1 := Lib.hid hl1
  have hl7 : L ≤ 8 := by omega
  have hl6 : 8 ≤ L := by omega
  clear hl1
  go_enter Try.func7, Try.ntmps7
  go_wp2_with (go_at_call 21; refine Hn.out.mono ?_; rintro e w1 ⟨rfl, hb1⟩)
  have hB := hb1.alloc hb1.size (Obj.cells #[Value.int IntKind.i64 lun, Value.string host] 50)
  have e4 : (w1.alloc (Obj.cells #[Value.int IntKind.i64 lun, Value.string host] 50)).cell? ⟨w1.heap.size, 0, none⟩ = some (.int .i64 lun) := by simp
  have e5 : (w1.alloc (Obj.cells #[Value.int IntKind.i64 lun, Value.string host] 50)).cell? ⟨w1.heap.size, 1, none⟩ = some (.string host) := by simp
  have hk := hb1.size
  have hk2 : w1.heap.size < (w1.alloc (Obj.cells #[Value.int IntKind.i64 lun, Value.string host] 50)).heap.size := by simp
  generalize w1.alloc (Obj.cells #[Value.int IntKind.i64 lun, Value.string host] 50) = W at *
  generalize w1.heap.size = kb at *
  clear hb1
  have e0 : W.cell? ⟨b, 0, none⟩ = some (.map (some mb)) := (hB.cell (blk_lt' H.out.blk)).trans hc
  have e2 : W.cell? ⟨g, o + (L - 1), none⟩ = some (.int .i64 y) := (hB.cell hg).trans hx
  have e3 : ∀ nq, (Instr.lookup 46 (.map (some mb)) (.agg #[.int .i64 lun, .string host]) false).run Try.prog (W.drewN nq) = .ok (.slice (some ⟨g, o, none⟩) L cap) (W.drewN nq) := fun nq => hlook _ (fun mb' hmb' => by cases hmb'; exact hB.block mb Him.out.owns.lt)
  go_quiet (fail)
  have hB2 := pw_below_drewN hB nq
  have f0 : (W.drewN nq).cell? ⟨b, 0, none⟩ = some (.map (some mb)) := e0
  have f2 : (W.drewN nq).cell? ⟨g, o + (L - 1), none⟩ = some (.int .i64 y) := e2
  have f4 : (W.drewN nq).cell? ⟨kb, 0, none⟩ = some (.int .i64 lun) := e4
  have f5 : (W.drewN nq).cell? ⟨kb, 1, none⟩ = some (.string host) := e5
  have hk3 : kb < (W.drewN nq).heap.size := hk2
  clear e0 e2 e3 e4 e5 hB hk2
  generalize W.drewN nq = W2 at *
  go_wp2_with fail
  have hbw : b < w.heap.size := blk_lt' H.out.blk
  go_region_held3 (fun wx => wx.cell? ⟨b, 0, none⟩ = some (.map (some mb)) ∧ wx.cell? ⟨kb, 0, none⟩ = some (.int .i64 lun) ∧ wx.cell? ⟨kb, 1, none⟩ = some (.string host))
    (first | go_keep | with_reducible exact ⟨m0, m4, m5⟩ | with_reducible exact ⟨k0, k4, k5⟩ | with_reducible exact ⟨g0, g4, g5⟩)
    (first
      | (go_at_call 22; refine (clone_any (kb + 1) _ ?_ F _ l2 ?_ ?_).mono ?_; (first | exact Nat.le_refl _ | omega | (simp; done) | (simp; omega) | exact (hB2.drew.alloc hB2.size _).size); (exact Hv.out.stay (Mod.of_new (F := fun _ => False) (by first | exact hB2.drew | exact hB2.drew.alloc hB2.size _)) (fun _ _ h => h)); exact hl8; rintro e wc ⟨vc, rfl, hownc, hbc⟩; have g0 : wc.cell? ⟨b, 0, none⟩ = some (.map (some mb)) := (hbc.cell (by first | exact Nat.le_refl _ | omega | (simp; done) | (simp; omega))).trans (by first | exact f0 | exact cell_alloc (w := W2.drew) f0 _); have g4 : wc.cell? ⟨kb, 0, none⟩ = some (.int .i64 lun) := (hbc.cell (by first | exact Nat.le_refl _ | omega | (simp; done) | (simp; omega))).trans (by first | exact f4 | exact cell_alloc (w := W2.drew) f4 _); have g5 : wc.cell? ⟨kb, 1, none⟩ = some (.string host) := (hbc.cell (by first | exact Nat.le_refl _ | omega | (simp; done) | (simp; omega))).trans (by first | exact f5 | exact cell_alloc (w := W2.drew) f5 _); have hwc : Below w.heap.size w wc := (by first | exact hB2.drew.trans (hbc.mono hB2.size) | exact (hB2.drew.alloc hB2.size _).trans (hbc.mono (hB2.drew.alloc hB2.size _).size)); have hwcs := hwc.size; have hkc : kb < wc.heap.size := (by have := hbc.size; simp at this; omega))
      | (refine step_append_lies _ (by rfl) _ _ _ (by rfl) (kb + 1) 3 i0 _ 1 8 Try.underlying34 hi hz0 hz1 hz2 rfl (by omega) vc l2.length (ints l2) (by rfl) (hownc.alloc _) ⟨wc.heap.size, 0, none⟩ 1 1 [.int .i64 why] (by rfl) (by rfl) (World.news_of_block (cs := #[.int .i64 why]) (t := 3) (fr := (0, 0)) (heap_alloc_new wc _)) (by simp [Value.oneCell']) (by omega) (by unfold maxLen; omega) (by omega) (by first | exact Nat.le_refl _ | omega | (simp; done) | (simp; omega)) (wc.heap.size + 1) (by simp) ?_; intro gg cap5 w5 hown5 hg5 _ _; have hb5 := grown_below' hwc hownc (by omega) hg5; have k0 := hg5.cell (cell_alloc g0 _) (own_ne hownc (by first | exact Nat.le_refl _ | omega | (simp; done) | (simp; omega))); have k4 := hg5.cell (cell_alloc g4 _) (own_ne hownc (by first | exact Nat.le_refl _ | omega | (simp; done) | (simp; omega))); have k5 := hg5.cell (cell_alloc g5 _) (own_ne hownc (by first | exact Nat.le_refl _ | omega | (simp; done) | (simp; omega))); obtain ⟨w6, hrun6, hown6, hturn6⟩ := (own_stay Him.out.owns (hb5.block mb Him.out.owns.lt)).store u_law Try.underlying46 hn (val := .slice (some ⟨gg, 0, none⟩) (l2.length + 1) cap5) (key_ok Hl.out hh) (d := .held (.slice (some ⟨gg, 0, none⟩) (l2.length + 1) cap5)) (ps := []) rfl; unfold keyV at hrun6; have hM6 : Mod (fun k => k = mb) w5 w6 := Mod.of_grown hturn6.grown (fun k e => (Option.some.inj e).symm); have m0 := keep_map (own_stay Him.out.owns (hb5.block mb Him.out.owns.lt)) hM6 k0; have m4 := keep_map (own_stay Him.out.owns (hb5.block mb Him.out.owns.lt)) hM6 k4; have m5 := keep_map (own_stay Him.out.owns (hb5.block mb Him.out.owns.lt)) hM6 k5)
      | (refine step_append_lies _ (by rfl) _ _ _ (by rfl) (kb + 1) 3 i0 _ 1 8 Try.underlying34 hi hz0 hz1 hz2 rfl (by omega) vc l2.length (ints l2) (by rfl) hownc ⟨W2.heap.size, 0, none⟩ 1 1 [.int .i64 why] (by rfl) (by rfl) (World.news_of_block (cs := #[.int .i64 why]) (t := 3) (fr := (0, 0)) ((hbc.block W2.heap.size (by simp)).trans (heap_alloc_new W2.drew _))) (by simp [Value.oneCell']) (by omega) (by unfold maxLen; omega) (by omega) (by omega) wc.heap.size rfl ?_; intro gg cap5 w5 hown5 hg5 _ _; have hb5 := grown_below hwc hownc (by omega) hg5; have k0 := hg5.cell g0 (own_ne hownc (by first | exact Nat.le_refl _ | omega | (simp; done) | (simp; omega))); have k4 := hg5.cell g4 (own_ne hownc (by first | exact Nat.le_refl _ | omega | (simp; done) | (simp; omega))); have k5 := hg5.cell g5 (own_ne hownc (by first | exact Nat.le_refl _ | omega | (simp; done) | (simp; omega))); obtain ⟨w6, hrun6, hown6, hturn6⟩ := (own_stay Him.out.owns (hb5.block mb Him.out.owns.lt)).store u_law Try.underlying46 hn (val := .slice (some ⟨gg, 0, none⟩) (l2.length + 1) cap5) (key_ok Hl.out hh) (d := .held (.slice (some ⟨gg, 0, none⟩) (l2.length + 1) cap5)) (ps := []) rfl; unfold keyV at hrun6; have hM6 : Mod (fun k => k = mb) w5 w6 := Mod.of_grown hturn6.grown (fun k e => (Option.some.inj e).symm); have m0 := keep_map (own_stay Him.out.owns (hb5.block mb Him.out.owns.lt)) hM6 k0; have m4 := keep_map (own_stay Him.out.owns (hb5.block mb Him.out.owns.lt)) hM6 k4; have m5 := keep_map (own_stay Him.out.owns (hb5.block mb Him.out.owns.lt)) hM6 k5)
      | fail)
  all_goals
    go_wp2
    go_ret
    rw [← HL2.out]
    exact add_end H.out Him.out Hl.out hh ⟨h1, h2, Hnm.out⟩ hl9 rfl hb5 (own_mono hown5 (by omega)) hown6 hturn6


set_option maxHeartbeats 2000000 in
set_option maxRecDepth 100000 in
theorem add_zero (b n mb : Nat) (f : Int → ByteArray → List Int) (F : Nat → Prop) (lun why : Int) (host : ByteArray) (w : World) (h : UnitsAt w b n f F (some mb)) (hn : n < maxLen) (h1 : 0 ≤ lun) (h2 : lun < 8) (h3 : 1 ≤ why) (h4 : why ≤ 4) (hh : host.size ≤ maxLen) (hnm : nameB host = true)
    (h0 : f lun host = [])  :
    Calls Try.prog 7 #[.pointer (some ⟨b, 0, none⟩), .int .i64 lun, .string host, .int .i64 why] w (Left w b (n + 1) F (upd f lun host ([why])) (.bool true)) := by
  have d1 : decide (lun < 0) = false := by simp; omega
  have d2 : decide (8 ≤ lun) = false := by simp; omega
  have d3 : decide (why < 1) = false := by simp; omega
  have d4 : decide (4 < why) = false := by simp; omega
  have hname := name_any host w hh
  rw [hnm] at hname
  have Hn := Lib.hid hname
  clear hname
  have hl : (Lit.int .i64 lun).wf = true := WalkArith.wf_i64 (by omega)
  obtain ⟨v, hv, hlook⟩ := h.map.look hl hh
  rw [h0] at hv
  obtain ⟨l2, hl2⟩ : ∃ l2 : List Int, l2 = [] := ⟨_, rfl⟩
  have hl9 : l2.length ≤ 7 := by rw [hl2]; simp
  have hl8 : l2.length ≤ 8 := by omega
  have hvn : v = .slice none 0 0 := by
    rcases hv with ⟨rfl, _⟩ | ⟨g, o, cap, rfl, hx, _⟩
    · rfl
    · simp at hx
  subst hvn
  clear hv
  have hc : w.cell? ⟨b, 0, none⟩ = some (.map (some mb)) := cell_of_row w b 0 _ _ _ h.blk
  have Hv : Hid (Ints w F (.slice none 0 0) l2) := .inl ⟨rfl, hl2⟩
  obtain ⟨D, him⟩ := h.made
  have hmb := mb_ne h him
  have HL2 := Lib.hid hl2
  clear hl2
  have H0 := Lib.hid h0
  have H := Lib.hid h
  have Hl := Lib.hid hl
  have Hnm := Lib.hid hnm
  have Him := Lib.hid him
  clear h0 h hl him hnm
  unfold keyV at hlook
  have hmn := u_map_nil
  have hmm := @run_makeMap Try.prog
  obtain ⟨i0, hi, hz0, hz1, hz2⟩ := info_parts u_info
  go_enter Try.func7, Try.ntmps7
  go_wp2_with (go_at_call 21; refine Hn.out.mono ?_; rintro e w1 ⟨rfl, hb1⟩)
  have hB := hb1.alloc hb1.size (Obj.cells #[Value.int IntKind.i64 lun, Value.string host] 50)
  have e4 : (w1.alloc (Obj.cells #[Value.int IntKind.i64 lun, Value.string host] 50)).cell? ⟨w1.heap.size, 0, none⟩ = some (.int .i64 lun) := by simp
  have e5 : (w1.alloc (Obj.cells #[Value.int IntKind.i64 lun, Value.string host] 50)).cell? ⟨w1.heap.size, 1, none⟩ = some (.string host) := by simp
  have hk := hb1.size
  have hk2 : w1.heap.size < (w1.alloc (Obj.cells #[Value.int IntKind.i64 lun, Value.string host] 50)).heap.size := by simp
  generalize w1.alloc (Obj.cells #[Value.int IntKind.i64 lun, Value.string host] 50) = W at *
  generalize w1.heap.size = kb at *
  clear hb1
  have e0 : W.cell? ⟨b, 0, none⟩ = some (.map (some mb)) := (hB.cell (blk_lt' H.out.blk)).trans hc
  have e3 : ∀ nq, (Instr.lookup 46 (.map (some mb)) (.agg #[.int .i64 lun, .string host]) false).run Try.prog (W.drewN nq) = .ok (.slice none 0 0) (W.drewN nq) := fun nq => hlook _ (fun mb' hmb' => by cases hmb'; exact hB.block mb Him.out.owns.lt)
  go_quiet (fail)
  have hB2 := pw_below_drewN hB nq
  have f0 : (W.drewN nq).cell? ⟨b, 0, none⟩ = some (.map (some mb)) := e0
  have f4 : (W.drewN nq).cell? ⟨kb, 0, none⟩ = some (.int .i64 lun) := e4
  have f5 : (W.drewN nq).cell? ⟨kb, 1, none⟩ = some (.string host) := e5
  have hk3 : kb < (W.drewN nq).heap.size := hk2
  clear e0 e3 e4 e5 hB hk2
  generalize W.drewN nq = W2 at *
  go_wp2_with fail
  have hbw : b < w.heap.size := blk_lt' H.out.blk
  go_region_held3 (fun wx => wx.cell? ⟨b, 0, none⟩ = some (.map (some mb)) ∧ wx.cell? ⟨kb, 0, none⟩ = some (.int .i64 lun) ∧ wx.cell? ⟨kb, 1, none⟩ = some (.string host))
    (first | go_keep | with_reducible exact ⟨m0, m4, m5⟩ | with_reducible exact ⟨k0, k4, k5⟩ | with_reducible exact ⟨g0, g4, g5⟩)
    (first
      | (go_at_call 22; refine (clone_any (kb + 1) _ ?_ F _ l2 ?_ ?_).mono ?_; (first | exact Nat.le_refl _ | omega | (simp; done) | (simp; omega) | exact (hB2.drew.alloc hB2.size _).size); (exact Hv.out.stay (Mod.of_new (F := fun _ => False) (by first | exact hB2.drew | exact hB2.drew.alloc hB2.size _)) (fun _ _ h => h)); exact hl8; rintro e wc ⟨vc, rfl, hownc, hbc⟩; have g0 : wc.cell? ⟨b, 0, none⟩ = some (.map (some mb)) := (hbc.cell (by first | exact Nat.le_refl _ | omega | (simp; done) | (simp; omega))).trans (by first | exact f0 | exact cell_alloc (w := W2.drew) f0 _); have g4 : wc.cell? ⟨kb, 0, none⟩ = some (.int .i64 lun) := (hbc.cell (by first | exact Nat.le_refl _ | omega | (simp; done) | (simp; omega))).trans (by first | exact f4 | exact cell_alloc (w := W2.drew) f4 _); have g5 : wc.cell? ⟨kb, 1, none⟩ = some (.string host) := (hbc.cell (by first | exact Nat.le_refl _ | omega | (simp; done) | (simp; omega))).trans (by first | exact f5 | exact cell_alloc (w := W2.drew) f5 _); have hwc : Below w.heap.size w wc := (by first | exact hB2.drew.trans (hbc.mono hB2.size) | exact (hB2.drew.alloc hB2.size _).trans (hbc.mono (hB2.drew.alloc hB2.size _).size)); have hwcs := hwc.size; have hkc : kb < wc.heap.size := (by have := hbc.size; simp at this; omega))
      | (refine step_append_lies _ (by rfl) _ _ _ (by rfl) (kb + 1) 3 i0 _ 1 8 Try.underlying34 hi hz0 hz1 hz2 rfl (by omega) vc l2.length (ints l2) (by rfl) (hownc.alloc _) ⟨wc.heap.size, 0, none⟩ 1 1 [.int .i64 why] (by rfl) (by rfl) (World.news_of_block (cs := #[.int .i64 why]) (t := 3) (fr := (0, 0)) (heap_alloc_new wc _)) (by simp [Value.oneCell']) (by omega) (by unfold maxLen; omega) (by omega) (by first | exact Nat.le_refl _ | omega | (simp; done) | (simp; omega)) (wc.heap.size + 1) (by simp) ?_; intro gg cap5 w5 hown5 hg5 _ _; have hb5 := grown_below' hwc hownc (by omega) hg5; have k0 := hg5.cell (cell_alloc g0 _) (own_ne hownc (by first | exact Nat.le_refl _ | omega | (simp; done) | (simp; omega))); have k4 := hg5.cell (cell_alloc g4 _) (own_ne hownc (by first | exact Nat.le_refl _ | omega | (simp; done) | (simp; omega))); have k5 := hg5.cell (cell_alloc g5 _) (own_ne hownc (by first | exact Nat.le_refl _ | omega | (simp; done) | (simp; omega))); obtain ⟨w6, hrun6, hown6, hturn6⟩ := (own_stay Him.out.owns (hb5.block mb Him.out.owns.lt)).store u_law Try.underlying46 hn (val := .slice (some ⟨gg, 0, none⟩) (l2.length + 1) cap5) (key_ok Hl.out hh) (d := .held (.slice (some ⟨gg, 0, none⟩) (l2.length + 1) cap5)) (ps := []) rfl; unfold keyV at hrun6; have hM6 : Mod (fun k => k = mb) w5 w6 := Mod.of_grown hturn6.grown (fun k e => (Option.some.inj e).symm); have m0 := keep_map (own_stay Him.out.owns (hb5.block mb Him.out.owns.lt)) hM6 k0; have m4 := keep_map (own_stay Him.out.owns (hb5.block mb Him.out.owns.lt)) hM6 k4; have m5 := keep_map (own_stay Him.out.owns (hb5.block mb Him.out.owns.lt)) hM6 k5)
      | (refine step_append_lies _ (by rfl) _ _ _ (by rfl) (kb + 1) 3 i0 _ 1 8 Try.underlying34 hi hz0 hz1 hz2 rfl (by omega) vc l2.length (ints l2) (by rfl) hownc ⟨W2.heap.size, 0, none⟩ 1 1 [.int .i64 why] (by rfl) (by rfl) (World.news_of_block (cs := #[.int .i64 why]) (t := 3) (fr := (0, 0)) ((hbc.block W2.heap.size (by simp)).trans (heap_alloc_new W2.drew _))) (by simp [Value.oneCell']) (by omega) (by unfold maxLen; omega) (by omega) (by omega) wc.heap.size rfl ?_; intro gg cap5 w5 hown5 hg5 _ _; have hb5 := grown_below hwc hownc (by omega) hg5; have k0 := hg5.cell g0 (own_ne hownc (by first | exact Nat.le_refl _ | omega | (simp; done) | (simp; omega))); have k4 := hg5.cell g4 (own_ne hownc (by first | exact Nat.le_refl _ | omega | (simp; done) | (simp; omega))); have k5 := hg5.cell g5 (own_ne hownc (by first | exact Nat.le_refl _ | omega | (simp; done) | (simp; omega))); obtain ⟨w6, hrun6, hown6, hturn6⟩ := (own_stay Him.out.owns (hb5.block mb Him.out.owns.lt)).store u_law Try.underlying46 hn (val := .slice (some ⟨gg, 0, none⟩) (l2.length + 1) cap5) (key_ok Hl.out hh) (d := .held (.slice (some ⟨gg, 0, none⟩) (l2.length + 1) cap5)) (ps := []) rfl; unfold keyV at hrun6; have hM6 : Mod (fun k => k = mb) w5 w6 := Mod.of_grown hturn6.grown (fun k e => (Option.some.inj e).symm); have m0 := keep_map (own_stay Him.out.owns (hb5.block mb Him.out.owns.lt)) hM6 k0; have m4 := keep_map (own_stay Him.out.owns (hb5.block mb Him.out.owns.lt)) hM6 k4; have m5 := keep_map (own_stay Him.out.owns (hb5.block mb Him.out.owns.lt)) hM6 k5)
      | fail)
  all_goals
    go_wp2
    go_ret
    have e9 : [why] = l2 ++ [why] := by rw [HL2.out]; rfl
    rw [e9]
    exact add_end H.out Him.out Hl.out hh ⟨h1, h2, Hnm.out⟩ hl9 rfl hb5 (own_mono hown5 (by omega)) hown6 hturn6


set_option maxHeartbeats 2000000 in
set_option maxRecDepth 100000 in
theorem add_last (b n mb : Nat) (f : Int → ByteArray → List Int) (F : Nat → Prop) (lun why : Int) (host : ByteArray) (w : World) (h : UnitsAt w b n f F (some mb)) (h1 : 0 ≤ lun) (h2 : lun < 8) (h3 : 1 ≤ why) (h4 : why ≤ 4) (hh : host.size ≤ maxLen) (hnm : nameB host = true)
    (l : List Int) (h0 : f lun host = l) (hl1 : 1 ≤ l.length) (hy : l.getD (l.length - 1) 0 = why) :
    Calls Try.prog 7 #[.pointer (some ⟨b, 0, none⟩), .int .i64 lun, .string host, .int .i64 why] w (Left w b (n + 1) F f (.bool false)) := by
  have d1 : decide (lun < 0) = false := by simp; omega
  have d2 : decide (8 ≤ lun) = false := by simp; omega
  have d3 : decide (why < 1) = false := by simp; omega
  have d4 : decide (4 < why) = false := by simp; omega
  have hname := name_any host w hh
  rw [hnm] at hname
  have Hn := Lib.hid hname
  clear hname
  have hl : (Lit.int .i64 lun).wf = true := WalkArith.wf_i64 (by omega)
  obtain ⟨v, hv, hlook⟩ := h.map.look hl hh
  rw [h0] at hv
  rcases hv with ⟨_, hv⟩ | ⟨g, o, cap, rfl, _, hcap, hFg, hg, hcell⟩
  · subst hv; simp at hl1
  obtain ⟨D, him⟩ := h.made
  have hmb := mb_ne h him
  have hc : w.cell? ⟨b, 0, none⟩ = some (.map (some mb)) := cell_of_row w b 0 _ _ _ h.blk
  have hx := hcell (l.length - 1) (by omega)
  rw [hy] at hx
  obtain ⟨L, hL⟩ : ∃ L, L = l.length := ⟨_, rfl⟩
  rw [← hL] at hlook hcap hl1 hx
  have hl7 : L ≤ 8 := by rw [hL, ← h0]; exact h.fair.short _ _
  have HL := Lib.hid hL
  have H0 := Lib.hid h0
  have H := Lib.hid h
  have Hl := Lib.hid hl
  have Hnm := Lib.hid hnm
  have Him := Lib.hid him
  have Hcell := Lib.hid hcell
  have Hy := Lib.hid hy
  clear hcell hL hy
  clear h0 h hl him hnm
  unfold keyV at hlook
  have hmn := u_map_nil
  have hmm := @run_makeMap Try.prog
  obtain ⟨i0, hi, hz0, hz1, hz2⟩ := info_parts u_info
  have q1 : decide (0 < (L : Int)) = true := by simp; omega
  have q3 : (0 : Int) ≤ (L : Int) - 1 := by omega
  have q4 : (L : Int) - 1 < (L : Int) := by omega
  have q2 : (why == why) = true := by simp
  go_enter Try.func7, Try.ntmps7
  go_wp2_with (go_at_call 21; refine Hn.out.mono ?_; rintro e w1 ⟨rfl, hb1⟩)
  have hB := hb1.alloc hb1.size (Obj.cells #[Value.int IntKind.i64 lun, Value.string host] 50)
  have e4 : (w1.alloc (Obj.cells #[Value.int IntKind.i64 lun, Value.string host] 50)).cell? ⟨w1.heap.size, 0, none⟩ = some (.int .i64 lun) := by simp
  have e5 : (w1.alloc (Obj.cells #[Value.int IntKind.i64 lun, Value.string host] 50)).cell? ⟨w1.heap.size, 1, none⟩ = some (.string host) := by simp
  have hk := hb1.size
  have hk2 : w1.heap.size < (w1.alloc (Obj.cells #[Value.int IntKind.i64 lun, Value.string host] 50)).heap.size := by simp
  generalize w1.alloc (Obj.cells #[Value.int IntKind.i64 lun, Value.string host] 50) = W at *
  generalize w1.heap.size = kb at *
  clear hb1
  have e0 : W.cell? ⟨b, 0, none⟩ = some (.map (some mb)) := (hB.cell (blk_lt' H.out.blk)).trans hc
  have e2 : W.cell? ⟨g, o + (L - 1), none⟩ = some (.int .i64 why) := (hB.cell hg).trans hx
  have e3 : ∀ nq, (Instr.lookup 46 (.map (some mb)) (.agg #[.int .i64 lun, .string host]) false).run Try.prog (W.drewN nq) = .ok (.slice (some ⟨g, o, none⟩) L cap) (W.drewN nq) := fun nq => hlook _ (fun mb' hmb' => by cases hmb'; exact hB.block mb Him.out.owns.lt)
  go_quiet (fail)
  have hB2 := pw_below_drewN hB nq
  have f0 : (W.drewN nq).cell? ⟨b, 0, none⟩ = some (.map (some mb)) := e0
  have f2 : (W.drewN nq).cell? ⟨g, o + (L - 1), none⟩ = some (.int .i64 why) := e2
  have f4 : (W.drewN nq).cell? ⟨kb, 0, none⟩ = some (.int .i64 lun) := e4
  have f5 : (W.drewN nq).cell? ⟨kb, 1, none⟩ = some (.string host) := e5
  have hk3 : kb < (W.drewN nq).heap.size := hk2
  clear e0 e2 e3 e4 e5 hB hk2
  generalize W.drewN nq = W2 at *
  go_wp2_with fail
  go_ret
  exact ⟨rfl, ⟨some mb, ((H.out.stay (Mod.of_new (F := fun _ => False) hB2) (fun _ _ h => h)).more (Nat.le_succ _)).mono (fun _ _ h => .inl h)⟩, Mod.of_new hB2⟩


set_option maxHeartbeats 2000000 in
set_option maxRecDepth 100000 in
theorem add_nomap (b n : Nat) (f : Int → ByteArray → List Int) (F : Nat → Prop) (lun why : Int) (host : ByteArray) (w : World) (h : UnitsAt w b n f F none) (hn : n < maxLen) (h1 : 0 ≤ lun) (h2 : lun < 8) (h3 : 1 ≤ why) (h4 : why ≤ 4) (hh : host.size ≤ maxLen) (hnm : nameB host = true)
    (h0 : f lun host = [])  :
    Calls Try.prog 7 #[.pointer (some ⟨b, 0, none⟩), .int .i64 lun, .string host, .int .i64 why] w (Left w b (n + 1) F (upd f lun host ([why])) (.bool true)) := by
  have d1 : decide (lun < 0) = false := by simp; omega
  have d2 : decide (8 ≤ lun) = false := by simp; omega
  have d3 : decide (why < 1) = false := by simp; omega
  have d4 : decide (4 < why) = false := by simp; omega
  have hname := name_any host w hh
  rw [hnm] at hname
  have Hn := Lib.hid hname
  clear hname
  have hl : (Lit.int .i64 lun).wf = true := WalkArith.wf_i64 (by omega)
  obtain ⟨v, hv, hlook⟩ := h.map.look hl hh
  rw [h0] at hv
  obtain ⟨l2, hl2⟩ : ∃ l2 : List Int, l2 = [] := ⟨_, rfl⟩
  have hl9 : l2.length ≤ 7 := by rw [hl2]; simp
  have hl8 : l2.length ≤ 8 := by omega
  have hvn : v = .slice none 0 0 := by
    rcases hv with ⟨rfl, _⟩ | ⟨g, o, cap, rfl, hx, _⟩
    · rfl
    · simp at hx
  subst hvn
  clear hv
  have hc : w.cell? ⟨b, 0, none⟩ = some (.map none) := cell_of_row w b 0 _ _ _ h.blk
  have hf : f = fun _ _ => [] := by
    rcases h.map with ⟨_, hf⟩ | ⟨mb, D, hm, _⟩
    · exact hf
    · cases hm
  have HL2 := Lib.hid hl2
  clear hl2
  have H0 := Lib.hid h0
  have H := Lib.hid h
  have Hl := Lib.hid hl
  have Hnm := Lib.hid hnm
  have Hf := Lib.hid hf
  clear h0 h hl hf hnm
  unfold keyV at hlook
  have hmn := u_map_nil
  have hmm := @run_makeMap Try.prog
  obtain ⟨i0, hi, hz0, hz1, hz2⟩ := info_parts u_info
  go_enter Try.func7, Try.ntmps7
  go_wp2_with (go_at_call 21; refine Hn.out.mono ?_; rintro e w1 ⟨rfl, hb1⟩)
  have hB := hb1.alloc hb1.size (Obj.cells #[Value.int IntKind.i64 lun, Value.string host] 50)
  have e4 : (w1.alloc (Obj.cells #[Value.int IntKind.i64 lun, Value.string host] 50)).cell? ⟨w1.heap.size, 0, none⟩ = some (.int .i64 lun) := by simp
  have e5 : (w1.alloc (Obj.cells #[Value.int IntKind.i64 lun, Value.string host] 50)).cell? ⟨w1.heap.size, 1, none⟩ = some (.string host) := by simp
  have hk := hb1.size
  have hk2 : w1.heap.size < (w1.alloc (Obj.cells #[Value.int IntKind.i64 lun, Value.string host] 50)).heap.size := by simp
  generalize w1.alloc (Obj.cells #[Value.int IntKind.i64 lun, Value.string host] 50) = W at *
  generalize w1.heap.size = kb at *
  clear hb1
  have e0 : W.cell? ⟨b, 0, none⟩ = some (.map (none)) := (hB.cell (blk_lt' H.out.blk)).trans hc
  have e3 : ∀ nq, (Instr.lookup 46 (.map (none)) (.agg #[.int .i64 lun, .string host]) false).run Try.prog (W.drewN nq) = .ok (.slice none 0 0) (W.drewN nq) := fun nq => hlook _ (fun mb' hmb' => by cases hmb')
  go_quiet (fail)
  have hB2 := pw_below_drewN hB nq
  have f0 : (W.drewN nq).cell? ⟨b, 0, none⟩ = some (.map (none)) := e0
  have f4 : (W.drewN nq).cell? ⟨kb, 0, none⟩ = some (.int .i64 lun) := e4
  have f5 : (W.drewN nq).cell? ⟨kb, 1, none⟩ = some (.string host) := e5
  have hk3 : kb < (W.drewN nq).heap.size := hk2
  clear e0 e3 e4 e5 hB hk2
  generalize W.drewN nq = W2 at *
  have fz : W2.frozen? ⟨b, 0, none⟩ = false := (hB2.frozen (blk_lt' H.out.blk)).trans (by simp [World.frozen?, H.out.blk])
  have hHb : Hid (W2.heap[b]? = some (.cells #[.map none] 48 (0, 0))) := (hB2.block b (blk_lt' H.out.blk)).trans H.out.blk
  have hbw0 : b < W2.heap.size := blk_lt' hHb.out
  have hbk : b < kb := Nat.lt_of_lt_of_le (blk_lt' H.out.blk) hk
  have HS := made_map H.out hB2
  go_wp2_with fail
  have f0' : ((W2.setCell ⟨b, 0, none⟩ (.map (some W2.heap.size))).alloc (.map #[] 0)).cell? ⟨b, 0, none⟩ = some (.map (some W2.heap.size)) := cell_of_row _ b 0 _ _ _ HS.1.blk
  have f4' : ((W2.setCell ⟨b, 0, none⟩ (.map (some W2.heap.size))).alloc (.map #[] 0)).cell? ⟨kb, 0, none⟩ = some (.int .i64 lun) := cell_alloc (cell_set_other (by first | exact Nat.le_refl _ | omega | (simp; done) | (simp; omega)) f4 _) _
  have f5' : ((W2.setCell ⟨b, 0, none⟩ (.map (some W2.heap.size))).alloc (.map #[] 0)).cell? ⟨kb, 1, none⟩ = some (.string host) := cell_alloc (cell_set_other (by first | exact Nat.le_refl _ | omega | (simp; done) | (simp; omega)) f5 _) _
  have hk3' : kb < ((W2.setCell ⟨b, 0, none⟩ (.map (some W2.heap.size))).alloc (.map #[] 0)).heap.size := by simp; omega
  clear f0 f4 f5 hk3 fz hbw0 hHb hB2 hk
  generalize (W2.setCell ⟨b, 0, none⟩ (.map (some W2.heap.size))).alloc (.map #[] 0) = W3 at *
  obtain ⟨H3, hM3⟩ := HS
  obtain ⟨D, him⟩ := H3.made
  generalize W2.heap.size = mb at *
  clear W2
  have f0 := f0'
  have f4 := f4'
  have f5 := f5'
  have hk3 := hk3'
  clear f0' f4' f5' hk3'
  have Him := Lib.hid him
  have HU := Lib.hid H3
  clear him H3
  have hB2 := Below.refl W3.heap.size W3
  have Hv : Hid (Ints W3 F (.slice none 0 0) l2) := .inl ⟨rfl, HL2.out⟩
  have hbw : b < W3.heap.size := by omega
  go_region_held3 (fun wx => wx.cell? ⟨b, 0, none⟩ = some (.map (some mb)) ∧ wx.cell? ⟨kb, 0, none⟩ = some (.int .i64 lun) ∧ wx.cell? ⟨kb, 1, none⟩ = some (.string host))
    (first | go_keep | with_reducible exact ⟨m0, m4, m5⟩ | with_reducible exact ⟨k0, k4, k5⟩ | with_reducible exact ⟨g0, g4, g5⟩)
    (first
      | (go_at_call 22; refine (clone_any W3.heap.size _ ?_ F _ l2 ?_ ?_).mono ?_; (first | exact Nat.le_refl _ | omega | (simp; done) | (simp; omega) | exact (hB2.drew.alloc hB2.size _).size); (exact Hv.out.stay (Mod.of_new (F := fun _ => False) (by first | exact hB2.drew | exact hB2.drew.alloc hB2.size _)) (fun _ _ h => h)); exact hl8; rintro e wc ⟨vc, rfl, hownc, hbc⟩; have g0 : wc.cell? ⟨b, 0, none⟩ = some (.map (some mb)) := (hbc.cell (by first | exact Nat.le_refl _ | omega | (simp; done) | (simp; omega))).trans (by first | exact f0 | exact cell_alloc (w := W3.drew) f0 _); have g4 : wc.cell? ⟨kb, 0, none⟩ = some (.int .i64 lun) := (hbc.cell (by first | exact Nat.le_refl _ | omega | (simp; done) | (simp; omega))).trans (by first | exact f4 | exact cell_alloc (w := W3.drew) f4 _); have g5 : wc.cell? ⟨kb, 1, none⟩ = some (.string host) := (hbc.cell (by first | exact Nat.le_refl _ | omega | (simp; done) | (simp; omega))).trans (by first | exact f5 | exact cell_alloc (w := W3.drew) f5 _); have hwc : Below W3.heap.size W3 wc := (by first | exact hB2.drew.trans (hbc.mono hB2.size) | exact (hB2.drew.alloc hB2.size _).trans (hbc.mono (hB2.drew.alloc hB2.size _).size)); have hwcs := hwc.size; have hkc : kb < wc.heap.size := (by have := hbc.size; simp at this; omega))
      | (refine step_append_lies _ (by rfl) _ _ _ (by rfl) W3.heap.size 3 i0 _ 1 8 Try.underlying34 hi hz0 hz1 hz2 rfl (by omega) vc l2.length (ints l2) (by rfl) (hownc.alloc _) ⟨wc.heap.size, 0, none⟩ 1 1 [.int .i64 why] (by rfl) (by rfl) (World.news_of_block (cs := #[.int .i64 why]) (t := 3) (fr := (0, 0)) (heap_alloc_new wc _)) (by simp [Value.oneCell']) (by omega) (by unfold maxLen; omega) (by omega) (by first | exact Nat.le_refl _ | omega | (simp; done) | (simp; omega)) (wc.heap.size + 1) (by simp) ?_; intro gg cap5 w5 hown5 hg5 _ _; have hb5 := grown_below' hwc hownc (by omega) hg5; have k0 := hg5.cell (cell_alloc g0 _) (own_ne hownc (by first | exact Nat.le_refl _ | omega | (simp; done) | (simp; omega))); have k4 := hg5.cell (cell_alloc g4 _) (own_ne hownc (by first | exact Nat.le_refl _ | omega | (simp; done) | (simp; omega))); have k5 := hg5.cell (cell_alloc g5 _) (own_ne hownc (by first | exact Nat.le_refl _ | omega | (simp; done) | (simp; omega))); obtain ⟨w6, hrun6, hown6, hturn6⟩ := (own_stay Him.out.owns (hb5.block mb Him.out.owns.lt)).store u_law Try.underlying46 hn (val := .slice (some ⟨gg, 0, none⟩) (l2.length + 1) cap5) (key_ok Hl.out hh) (d := .held (.slice (some ⟨gg, 0, none⟩) (l2.length + 1) cap5)) (ps := []) rfl; unfold keyV at hrun6; have hM6 : Mod (fun k => k = mb) w5 w6 := Mod.of_grown hturn6.grown (fun k e => (Option.some.inj e).symm); have m0 := keep_map (own_stay Him.out.owns (hb5.block mb Him.out.owns.lt)) hM6 k0; have m4 := keep_map (own_stay Him.out.owns (hb5.block mb Him.out.owns.lt)) hM6 k4; have m5 := keep_map (own_stay Him.out.owns (hb5.block mb Him.out.owns.lt)) hM6 k5)
      | (refine step_append_lies _ (by rfl) _ _ _ (by rfl) W3.heap.size 3 i0 _ 1 8 Try.underlying34 hi hz0 hz1 hz2 rfl (by omega) vc l2.length (ints l2) (by rfl) hownc ⟨W3.heap.size, 0, none⟩ 1 1 [.int .i64 why] (by rfl) (by rfl) (World.news_of_block (cs := #[.int .i64 why]) (t := 3) (fr := (0, 0)) ((hbc.block W3.heap.size (by simp)).trans (heap_alloc_new W3.drew _))) (by simp [Value.oneCell']) (by omega) (by unfold maxLen; omega) (by omega) (by omega) wc.heap.size rfl ?_; intro gg cap5 w5 hown5 hg5 _ _; have hb5 := grown_below hwc hownc (by omega) hg5; have k0 := hg5.cell g0 (own_ne hownc (by first | exact Nat.le_refl _ | omega | (simp; done) | (simp; omega))); have k4 := hg5.cell g4 (own_ne hownc (by first | exact Nat.le_refl _ | omega | (simp; done) | (simp; omega))); have k5 := hg5.cell g5 (own_ne hownc (by first | exact Nat.le_refl _ | omega | (simp; done) | (simp; omega))); obtain ⟨w6, hrun6, hown6, hturn6⟩ := (own_stay Him.out.owns (hb5.block mb Him.out.owns.lt)).store u_law Try.underlying46 hn (val := .slice (some ⟨gg, 0, none⟩) (l2.length + 1) cap5) (key_ok Hl.out hh) (d := .held (.slice (some ⟨gg, 0, none⟩) (l2.length + 1) cap5)) (ps := []) rfl; unfold keyV at hrun6; have hM6 : Mod (fun k => k = mb) w5 w6 := Mod.of_grown hturn6.grown (fun k e => (Option.some.inj e).symm); have m0 := keep_map (own_stay Him.out.owns (hb5.block mb Him.out.owns.lt)) hM6 k0; have m4 := keep_map (own_stay Him.out.owns (hb5.block mb Him.out.owns.lt)) hM6 k4; have m5 := keep_map (own_stay Him.out.owns (hb5.block mb Him.out.owns.lt)) hM6 k5)
      | fail)
  all_goals
    go_wp2
    go_ret
    have e9 : [why] = l2 ++ [why] := by rw [HL2.out]; rfl
    rw [e9]
    exact left_trans hM3 (add_end HU.out Him.out Hl.out hh ⟨h1, h2, Hnm.out⟩ hl9 rfl hb5 (own_mono hown5 (by omega)) hown6 hturn6)


end Go.Proofs.Ytbcofdecdknkeaa
