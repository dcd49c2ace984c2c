/- UnitsApart: the walk. -/
import Derived.Test.YtbcofdecdknkeaaUnB
import Derived.Deep.DeepCutAuto
import Derived.Lib.SlicesS
namespace Go.Proofs.Ytbcofdecdknkeaa
open Go.RowKit Go.Deep Go.Maps

structure Stp where
  kind : Int
  lun : Int
  host : ByteArray
  why : Int
structure Stp.ok (s : Stp) : Prop where
  k : (Lit.int .i64 s.kind).wf = true
  l : (Lit.int .i64 s.lun).wf = true
  h : s.host.size ≤ maxLen
  y : (Lit.int .i64 s.why).wf = true
theorem addF_other (f : Int → ByteArray → List Int) {lun a why : Int} {host b : ByteArray} (h : ¬ (a = lun ∧ b = host)) : addF f lun host why a b = f a b := by
  unfold addF
  split
  · exact upd_other _ _ h
  · rfl
theorem fgt_other (f : Int → ByteArray → List Int) {a : Int} {host b : ByteArray} {k : Nat} (h : ¬ b = host) : fgt f host k a b = f a b := by
  unfold fgt
  rw [if_neg]
  exact fun hh => h hh.2.2
/-- the cells of a Step lie there. -/
def StpAt (w : World) (b o : Nat) (s : Stp) : Prop :=
  w.cell? ⟨b, o, none⟩ = some (.int .i64 s.kind) ∧ w.cell? ⟨b, o + 1, none⟩ = some (.int .i64 s.lun) ∧ w.cell? ⟨b, o + 2, none⟩ = some (.string s.host) ∧ w.cell? ⟨b, o + 3, none⟩ = some (.int .i64 s.why)

theorem StpAt.below {w w' : World} {B b o : Nat} {s : Stp} (h : StpAt w b o s) (hb : Below B w w') (hB : b < B) : StpAt w' b o s :=
  ⟨(hb.cell (p := ⟨b, _, none⟩) hB).trans h.1, (hb.cell (p := ⟨b, _, none⟩) hB).trans h.2.1, (hb.cell (p := ⟨b, _, none⟩) hB).trans h.2.2.1, (hb.cell (p := ⟨b, _, none⟩) hB).trans h.2.2.2⟩

set_option maxHeartbeats 2000000 in
set_option maxRecDepth 100000 in
theorem apart_any (w : World) (a : Stp) (ha : a.ok) (A : Option Addr) (len cap : Nat) (S : Nat → Stp) (hlen : len ≤ 9223372036854775807) (hS : ∀ j, j < len → (S j).ok ∧ ∃ sb so, A = some ⟨sb, so, none⟩ ∧ StpAt w sb (so + j * 4) (S j)) :
    Calls Try.prog 3 #[.agg #[.int .i64 a.kind, .int .i64 a.lun, .string a.host, .int .i64 a.why], .slice A len cap] w fun e w' => e = .returned (.bool true) ∧ Below w.heap.size w w' := by
  obtain ⟨kd, ln, hst, wy⟩ := a
  obtain ⟨hk1, hl1, hh1, hy1⟩ := ha
  simp only at hk1 hl1 hh1 hy1 ⊢
  go_enter Try.func3, Try.ntmps3
  go_wp2_with fail
  obtain ⟨B, hB⟩ : ∃ B, B = w.heap.size + 1 := ⟨_, rfl⟩
  have hb0 := (Below.refl w.heap.size w).alloc (Nat.le_refl _) (Obj.cells #[Value.int IntKind.i64 kd, Value.int IntKind.i64 ln, Value.string hst, Value.int IntKind.i64 wy] 23)
  have hs0 : (w.alloc (Obj.cells #[Value.int IntKind.i64 kd, Value.int IntKind.i64 ln, Value.string hst, Value.int IntKind.i64 wy] 23)).heap.size = B := by rw [hB]; simp
  have ca0 : StpAt (w.alloc (Obj.cells #[Value.int IntKind.i64 kd, Value.int IntKind.i64 ln, Value.string hst, Value.int IntKind.i64 wy] 23)) w.heap.size 0 ⟨kd, ln, hst, wy⟩ := ⟨by simp, by simp, by simp, by simp⟩
  generalize w.alloc (Obj.cells #[Value.int IntKind.i64 kd, Value.int IntKind.i64 ln, Value.string hst, Value.int IntKind.i64 wy] 23) = W0 at *
  have hA0 : w.heap.size < B := by omega
  have HB := Lib.hid hB
  clear hB
  refine (new_any _).mono ?_
  rintro e w1 ⟨rfl, hu1, hb1, hs1⟩
  rw [hs0] at hu1 hb1 hs1 ⊢
  clear hs0
  have ca1 : StpAt w1 w.heap.size 0 ⟨kd, ln, hst, wy⟩ := ca0.below hb1 hA0
  have hbw1 : Below w.heap.size w w1 := hb0.trans (hb1.mono (by omega))
  obtain ⟨c1, c2, c3, c4⟩ := ca1
  simp only [Nat.zero_add] at c1 c2 c3 c4
  by_cases hbig : 1000 < hst.size
  · have d1 : decide (1000 < (hst.size : Int)) = true := by simp; omega
    go_wp2_with (go_at_call 8; refine (wakes_any _).mono ?_; rintro e w2 ⟨rfl, hb2⟩)
    go_ret
    exact ⟨rfl, hbw1.trans (hb2.mono hbw1.size)⟩
  have d1 : decide (1000 < (hst.size : Int)) = false := by simp; omega
  go_wp2_with fail
  have hadd := add_any B 0 (fun _ _ => []) _ none ln wy hst w1 hu1 (by unfold maxLen; omega) hh1
  cases hr : addR (fun _ _ => []) ln hst wy
  · rw [hr] at hadd
    refine hadd.mono ?_
    rintro e w2 ⟨rfl, _, hM2⟩
    have hb2 : Below B w1 w2 := hM2.below (fun i hi hk => by omega) (by omega)
    have hbw2 : Below w.heap.size w w2 := hbw1.trans (hb2.mono (by omega))
    clear hadd hM2 hr hu1
    go_wp2_with (go_at_call 8; refine (wakes_any _).mono ?_; rintro e w3 ⟨rfl, hb3⟩)
    go_ret
    exact ⟨rfl, hbw2.trans (hb3.mono hbw2.size)⟩
  have hfa : addF (fun _ _ => []) ln hst wy ln hst = [wy] := by unfold addF; rw [if_pos hr]; exact upd_same _ _ _ _
  rw [hr] at hadd
  refine hadd.mono ?_
  rintro e w2 ⟨rfl, ⟨m2, hu2⟩, hM2⟩
  have hb2 : Below B w1 w2 := hM2.below (fun i hi hk => by omega) (by omega)
  have hbw2 : Below w.heap.size w w2 := hbw1.trans (hb2.mono (by omega))
  have ca2 : StpAt w2 w.heap.size 0 ⟨kd, ln, hst, wy⟩ := (ca0.below hb1 hA0).below hb2 hA0
  generalize addF (fun _ _ => []) ln hst wy = f2 at *
  have hF2 : ∀ q, (q = B ∨ (w1.heap.size ≤ q ∧ q < w2.heap.size)) → B ≤ q ∧ q < w2.heap.size := fun q hq => by
    have := hM2.size
    omega
  have hBs2 : B < w2.heap.size := by have := hM2.size; omega
  clear hadd hM2 hr hu1 hb2
  go_wp2_with fail
  go_loopw [6] (fun i wr => ∃ (k n : Nat) (f : Int → ByteArray → List Int) (F : Nat → Prop) (m : Option Nat), k ≤ len ∧ i = .int .i64 k ∧ UnitsAt wr B n f F m ∧ n ≤ k + 1 ∧ k ≤ 60 ∧ Hid (f ln hst = [wy]) ∧ Hid (∀ q, F q → B ≤ q ∧ q < wr.heap.size) ∧ Below w.heap.size w wr ∧ StpAt wr w.heap.size 0 ⟨kd, ln, hst, wy⟩ ∧ B < wr.heap.size) (fun i _ => len - (intOf i).toNat)
  case atStart => exact ⟨0, 1, f2, _, m2, by omega, rfl, hu2, by omega, by omega, hfa, hF2, hbw2, ca2, hBs2⟩
  case round =>
    clear hfa hu2 hF2 hBs2 hbw2 ca2 hb0 ca0 hb1 hs1 hbw1 c1 c2 c3 c4 d1
    obtain ⟨k, n, f, F, m, hk, rfl, hu, hn, hk60, hf, hF, hbw, ca, hBs⟩ := hrel
    by_cases hlt : k < len ∧ k < 60
    · obtain ⟨hlt, h60⟩ := hlt
      have q1 : decide ((k : Int) < (len : Int)) = true := by simp; omega
      have q2 : decide ((k : Int) < 60) = true := by simp; omega
      obtain ⟨⟨xk1, xl1, xh1, xy1⟩, sb, so, rfl, xc⟩ := hS k hlt
      have hsb : sb < w.heap.size := World.block_lt_of_cell? w _ xc.1
      obtain ⟨x1, x2, x3, x4⟩ := xc.below hbw hsb
      generalize S k = s at *
      obtain ⟨xk, xl, xh, xy⟩ := s
      simp only at xk1 xl1 xh1 xy1 x1 x2 x3 x4
      have i1 : (0 : Int) ≤ (k : Int) := by omega
      have i2 : (k : Int) < (len : Int) := by omega
      go_upto_region 8 with fail
      have hu' := hu.stay (Mod.of_new (F := fun _ => False) ((Below.refl wr.heap.size wr).alloc (Nat.le_refl _) (Obj.cells #[Value.int IntKind.i64 xk, Value.int IntKind.i64 xl, Value.string xh, Value.int IntKind.i64 xy] 23))) (fun _ _ h => h)
      have hbw' := hbw.alloc hbw.size (Obj.cells #[Value.int IntKind.i64 xk, Value.int IntKind.i64 xl, Value.string xh, Value.int IntKind.i64 xy] 23)
      have ca' := ca.below ((Below.refl wr.heap.size wr).alloc (Nat.le_refl _) (Obj.cells #[Value.int IntKind.i64 xk, Value.int IntKind.i64 xl, Value.string xh, Value.int IntKind.i64 xy] 23)) (by omega)
      have cx : StpAt (wr.alloc (Obj.cells #[Value.int IntKind.i64 xk, Value.int IntKind.i64 xl, Value.string xh, Value.int IntKind.i64 xy] 23)) wr.heap.size 0 ⟨xk, xl, xh, xy⟩ := ⟨by simp, by simp, by simp, by simp⟩
      have hsz : wr.heap.size < (wr.alloc (Obj.cells #[Value.int IntKind.i64 xk, Value.int IntKind.i64 xl, Value.string xh, Value.int IntKind.i64 xy] 23)).heap.size := by simp
      have hF' : Hid (∀ q, F q → B ≤ q ∧ q < (wr.alloc (Obj.cells #[Value.int IntKind.i64 xk, Value.int IntKind.i64 xl, Value.string xh, Value.int IntKind.i64 xy] 23)).heap.size) := fun q hq => ⟨(hF.out q hq).1, Nat.lt_trans (hF.out q hq).2 hsz⟩
      have hX : Hid (¬ F wr.heap.size) := fun hq => Nat.lt_irrefl _ (hF.out _ hq).2
      clear hu hbw ca hF x1 x2 x3 x4
      generalize wr.alloc (Obj.cells #[Value.int IntKind.i64 xk, Value.int IntKind.i64 xl, Value.string xh, Value.int IntKind.i64 xy] 23) = W at *
      generalize wr.heap.size = X at *
      obtain ⟨a1, a2, a3, a4⟩ := ca'
      obtain ⟨x1, x2, x3, x4⟩ := cx
      simp only [Nat.zero_add] at a1 a2 a3 a4 x1 x2 x3 x4
      clear wr
      by_cases e1 : 1000 < xh.size
      · have p1 : decide (1000 < (xh.size : Int)) = true := by simp; omega
        go_wp2_with fail
        go_roundw
        case rel => exact ⟨k + 1, n, f, F, m, by omega, by go_num, hu', by omega, by omega, hf, hF', hbw', ⟨by simpa using a1, by simpa using a2, by simpa using a3, by simpa using a4⟩, by omega⟩
        case measure => simp [intOf]; omega
      have p1 : decide (1000 < (xh.size : Int)) = false := by simp; omega
      by_cases e2 : xh = hst
      · have e2' := e2.symm
        subst e2'
        clear e2
        have p2 : (hst.toList == hst.toList) = true := by simp
        by_cases e3 : xl = ln
        · have e3' := e3.symm
          subst e3'
          clear e3
          have p3 : (ln == ln) = true := by simp
          go_wp2_with fail
          go_roundw
          case rel => exact ⟨k + 1, n, f, F, m, by omega, by go_num, hu', by omega, by omega, hf, hF', hbw', ⟨by simpa using a1, by simpa using a2, by simpa using a3, by simpa using a4⟩, by omega⟩
          case measure => simp [intOf]; omega
        have p3 : (xl == ln) = false := beq_eq_false_iff_ne.2 e3
        by_cases e4 : xk = 2
        · subst e4
          have p4 : ((2 : Int) == 2) = true := by simp
          go_wp2_with fail
          go_roundw
          case rel => exact ⟨k + 1, n, f, F, m, by omega, by go_num, hu', by omega, by omega, hf, hF', hbw', ⟨by simpa using a1, by simpa using a2, by simpa using a3, by simpa using a4⟩, by omega⟩
          case measure => simp [intOf]; omega
        have p4 : (xk == 2) = false := beq_eq_false_iff_ne.2 e4
        by_cases e5 : xk = 0
        · subst e5
          have p5 : ((0 : Int) == 0) = true := by simp
          have hcall := add_any B n f F m xl xy hst W hu' (by unfold maxLen; omega) hh1
          have Hc := Lib.hid hcall
          clear hcall
          go_wp2_with (go_at_call 7; refine Hc.out.mono ?_; rintro e w3 ⟨rfl, ⟨m3, hu3⟩, hM3⟩)
          have hb3 : Below B W w3 := hM3.below (fun i hi hk => by have := (hF'.out i hk).1; omega) (by omega)
          have hs3 := hM3.size
          go_roundw
          case rel => exact ⟨k + 1, n + 1, (addF f xl hst xy), _, m3, by omega, by go_num, hu3, by omega, by omega, by show (addF f xl hst xy) ln hst = [wy]; rw [addF_other f (fun hh => e3 hh.1.symm)]; exact hf.out, fun q hq => by rcases hq with hq | hq; exact ⟨(hF'.out q hq).1, Nat.lt_of_lt_of_le (hF'.out q hq).2 hs3⟩; exact ⟨by omega, hq.2⟩, hbw'.trans (hb3.mono (by omega)), StpAt.below ⟨by simpa using a1, by simpa using a2, by simpa using a3, by simpa using a4⟩ hb3 hA0, by omega⟩
          case measure => simp [intOf]; omega
        have p5 : (xk == 0) = false := beq_eq_false_iff_ne.2 e5
        by_cases e6 : xk = 1
        · subst e6
          have p6 : ((1 : Int) == 1) = true := by simp
          have hcall := take_any B n f F m xl hst W hu' (by unfold maxLen; omega) xl1 hh1
          have Hc := Lib.hid hcall
          clear hcall
          go_wp2_with (go_at_call 9; refine Hc.out.mono ?_; rintro e w3 ⟨rfl, ⟨m3, hu3⟩, hM3⟩)
          have hb3 : Below B W w3 := hM3.below (fun i hi hk => by have := (hF'.out i hk).1; omega) (by omega)
          have hs3 := hM3.size
          go_roundw
          case rel => exact ⟨k + 1, n + 1, (upd f xl hst (f xl hst).tail), _, m3, by omega, by go_num, hu3, by omega, by omega, by show (upd f xl hst (f xl hst).tail) ln hst = [wy]; rw [upd_other _ _ (fun hh => e3 hh.1.symm)]; exact hf.out, fun q hq => by rcases hq with hq | hq; exact ⟨(hF'.out q hq).1, Nat.lt_of_lt_of_le (hF'.out q hq).2 hs3⟩; exact ⟨by omega, hq.2⟩, hbw'.trans (hb3.mono (by omega)), StpAt.below ⟨by simpa using a1, by simpa using a2, by simpa using a3, by simpa using a4⟩ hb3 hA0, by omega⟩
          case measure => simp [intOf]; omega
        have p6 : (xk == 1) = false := beq_eq_false_iff_ne.2 e6
        skip
        go_wp2_with fail
        go_roundw
        case rel => exact ⟨k + 1, n, f, F, m, by omega, by go_num, hu', by omega, by omega, hf, hF', hbw', ⟨by simpa using a1, by simpa using a2, by simpa using a3, by simpa using a4⟩, by omega⟩
        case measure => simp [intOf]; omega
      have p2 : (xh.toList == hst.toList) = false := (Lib.bytes_beq_false_iff xh hst).2 e2
      have ne : ¬ (ln = xl ∧ hst = xh) := fun h => e2 h.2.symm
      have ne2 : ¬ hst = xh := fun h => e2 h.symm
      have Ne := Lib.hid ne
      have Ne2 := Lib.hid ne2
      clear ne ne2
      by_cases e5 : xk = 0
      · subst e5
        have p5 : ((0 : Int) == 0) = true := by simp
        have hcall := add_any B n f F m xl xy xh W hu' (by unfold maxLen; omega) xh1
        have Hc := Lib.hid hcall
        clear hcall
        go_wp2_with (go_at_call 7; refine Hc.out.mono ?_; rintro e w3 ⟨rfl, ⟨m3, hu3⟩, hM3⟩)
        have hb3 : Below B W w3 := hM3.below (fun i hi hk => by have := (hF'.out i hk).1; omega) (by omega)
        have hs3 := hM3.size
        go_roundw
        case rel => exact ⟨k + 1, n + 1, (addF f xl xh xy), _, m3, by omega, by go_num, hu3, by omega, by omega, by show (addF f xl xh xy) ln hst = [wy]; rw [addF_other f Ne.out]; exact hf.out, fun q hq => by rcases hq with hq | hq; exact ⟨(hF'.out q hq).1, Nat.lt_of_lt_of_le (hF'.out q hq).2 hs3⟩; exact ⟨by omega, hq.2⟩, hbw'.trans (hb3.mono (by omega)), StpAt.below ⟨by simpa using a1, by simpa using a2, by simpa using a3, by simpa using a4⟩ hb3 hA0, by omega⟩
        case measure => simp [intOf]; omega
      have p5 : (xk == 0) = false := beq_eq_false_iff_ne.2 e5
      by_cases e6 : xk = 1
      · subst e6
        have p6 : ((1 : Int) == 1) = true := by simp
        have hcall := take_any B n f F m xl xh W hu' (by unfold maxLen; omega) xl1 xh1
        have Hc := Lib.hid hcall
        clear hcall
        go_wp2_with (go_at_call 9; refine Hc.out.mono ?_; rintro e w3 ⟨rfl, ⟨m3, hu3⟩, hM3⟩)
        have hb3 : Below B W w3 := hM3.below (fun i hi hk => by have := (hF'.out i hk).1; omega) (by omega)
        have hs3 := hM3.size
        go_roundw
        case rel => exact ⟨k + 1, n + 1, (upd f xl xh (f xl xh).tail), _, m3, by omega, by go_num, hu3, by omega, by omega, by show (upd f xl xh (f xl xh).tail) ln hst = [wy]; rw [upd_other _ _ Ne.out]; exact hf.out, fun q hq => by rcases hq with hq | hq; exact ⟨(hF'.out q hq).1, Nat.lt_of_lt_of_le (hF'.out q hq).2 hs3⟩; exact ⟨by omega, hq.2⟩, hbw'.trans (hb3.mono (by omega)), StpAt.below ⟨by simpa using a1, by simpa using a2, by simpa using a3, by simpa using a4⟩ hb3 hA0, by omega⟩
        case measure => simp [intOf]; omega
      have p6 : (xk == 1) = false := beq_eq_false_iff_ne.2 e6
      by_cases e7 : xk = 2
      · subst e7
        have p7 : ((2 : Int) == 2) = true := by simp
        have hcall := forget_any B n f F m xh W hu' xh1
        have Hc := Lib.hid hcall
        clear hcall
        go_wp2_with (go_at_call 10; refine Hc.out.mono ?_; rintro e w3 ⟨rfl, ⟨m3, hu3⟩, hM3⟩)
        have hb3 : Below B W w3 := hM3.below (fun i hi hk => by have := (hF'.out i hk).1; omega) (by omega)
        have hs3 := hM3.size
        go_roundw
        case rel => exact ⟨k + 1, n, (fgt f xh 8), _, m3, by omega, by go_num, hu3, by omega, by omega, by show (fgt f xh 8) ln hst = [wy]; rw [fgt_other f Ne2.out]; exact hf.out, fun q hq => by rcases hq with hq | hq; exact ⟨(hF'.out q hq).1, Nat.lt_of_lt_of_le (hF'.out q hq).2 hs3⟩; exact ⟨by omega, hq.2⟩, hbw'.trans (hb3.mono (by omega)), StpAt.below ⟨by simpa using a1, by simpa using a2, by simpa using a3, by simpa using a4⟩ hb3 hA0, by omega⟩
        case measure => simp [intOf]; omega
      have p7 : (xk == 2) = false := beq_eq_false_iff_ne.2 e7
      skip
      go_wp2_with fail
      go_roundw
      case rel => exact ⟨k + 1, n, f, F, m, by omega, by go_num, hu', by omega, by omega, hf, hF', hbw', ⟨by simpa using a1, by simpa using a2, by simpa using a3, by simpa using a4⟩, by omega⟩
      case measure => simp [intOf]; omega
    · have hq : len ≤ k ∨ (k < len ∧ 60 ≤ k) := by omega
      have hcall := take_any B n f F m ln hst wr hu (by unfold maxLen; omega) hl1 hh1
      rw [hf.out] at hcall
      have Hc := Lib.hid hcall
      obtain ⟨a1, a2, a3, a4⟩ := ca
      simp only [Nat.zero_add] at a1 a2 a3 a4
      clear hcall
      have hc2 : Calls Try.prog 9 #[.pointer (some ⟨B, 0, none⟩), .int .i64 ln, .string hst] wr (Left wr B (n + 1) F (upd f ln hst []) (.tuple #[.int .i64 wy, .bool true])) := Hc.out
      have Hc2 := Lib.hid hc2
      clear hc2 Hc
      clear hlt
      rcases hq with q1 | ⟨q0, q1⟩
      all_goals
        go_wp2_with fail
        refine Hc2.out.mono ?_
        rintro e w3 ⟨rfl, ⟨m3, hu3⟩, hM3⟩
        have hb3 : Below B wr w3 := hM3.below (fun i hi hk => by have := (hF.out i hk).1; omega) (by omega)
        have hs3 := hM3.size
        obtain ⟨a1, a2, a3, a4⟩ := StpAt.below (s := ⟨kd, ln, hst, wy⟩) (o := 0) ⟨by simpa using a1, by simpa using a2, by simpa using a3, by simpa using a4⟩ hb3 hA0
        simp only [Nat.zero_add] at a1 a2 a3 a4
        have hw := wait_any B (n + 1) _ _ m3 ln hst w3 hu3 hl1 hh1
        rw [upd_same] at hw
        have Hw := Lib.hid hw
        have hbw3 : Below w.heap.size w w3 := hbw.trans (hb3.mono (by omega))
        clear hw hM3 hu3
        go_wp2_with (first
          | (go_at_call 11; refine Hw.out.mono ?_; rintro e w4 ⟨rfl, rfl⟩)
          | (go_at_call 8; refine (wakes_any _).mono ?_; rintro e w5 ⟨rfl, hb5⟩))
        go_ret
        exact ⟨rfl, hbw3.trans (hb5.mono hbw3.size)⟩
end Go.Proofs.Ytbcofdecdknkeaa
