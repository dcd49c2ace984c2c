/- 'UnitsApart' answers true for every input: what waits for one host at one unit is not touched by what comes to others. No condition. -/
import Derived.Test.YtbcofdecdknkeaaRows
import Derived.Test.YtbcofdecdknkeaaUnApart
import Derived.ProofKit
import Derived.OpenShut
import Derived.ShutString
import Derived.ChangeOld
import Derived.Deep.Slices
import Derived.Lib.SmallJoins
namespace Go.Proofs.Ytbcofdecdknkeaa.unitsApart
open Go.ChangeShapes Go.WideShapes Go.ChangeAt Go.RowKit Go.Deep Go.Joins
open Go.ChangeMaps (open_string shut_string)
set_option linter.unusedVariables false

theorem own : ownKnob Try.prog.godebug = none := by kernel_rfl
theorem cellsStep : Try.prog.cellsOf 23 = 4 := by kernel_rfl

instance : Inhabited Stp := ⟨⟨0, 0, ByteArray.empty, 0⟩⟩

theorem stp_of {H : Type} {enc : TypeId × Value → H} {w : World} {base : Nat} {spare : Nat → Bool} {held : Bool} {n : Nat} {cs : List Value} {x : DataW H × List MemPlace} (h : DataW.trod enc Try.prog w base spare held n 23 cs = some x) :
    ∃ s : Stp, cs = [.int .i64 s.kind, .int .i64 s.lun, .string s.host, .int .i64 s.why] ∧ s.ok := by
  obtain ⟨y0, y1, y2, y3, m, _, hlen, h0, h1, h2, h3⟩ := trod_struct4 Try.underlying23 h
  rw [cellsStep] at hlen
  match cs, hlen with
  | [v0, v1, v2, v3], _ =>
    obtain ⟨k, e0, _, wk⟩ := DataW.trod_int Try.underlying3 h0
    obtain ⟨l, e1, _, wl⟩ := DataW.trod_int Try.underlying3 h1
    obtain ⟨s, e2, _, ws⟩ := DataW.trod_string Try.underlying9 h2
    obtain ⟨y, e3, _, wy⟩ := DataW.trod_int Try.underlying3 h3
    simp only [u_cellsInt, u_cellsStr, List.drop_zero, List.take_succ_cons, List.take_zero, List.drop_succ_cons, List.cons.injEq, and_true] at e0 e1 e2 e3
    subst e0 e1 e2 e3
    exact ⟨⟨k, l, s, y⟩, rfl, ⟨wk, wl, ws, wy⟩⟩

set_option maxRecDepth 100000 in
theorem lifted (os : Os) (started : os.Started) (H : Type) (enc : TypeId × Value → H) :
    ReturnsInHanded {} Try.checked os 3 .any (Rows.unitsApartSpec.pre6 enc Try.prog Try.f3 Rows.unitsApartRow.domain false) (Rows.unitsApartSpec.post enc Try.prog Try.f3 false true false false) := by
  refine returnsInHanded_of_change (C := Try.checked) own started (by kernel_rfl) Try.func3
    (ChangeSpec.witness6 (enc := enc) (C := Try.checked) false ⟨#[], #[.agg #[.int .i64 0, .int .i64 0, .string ByteArray.empty, .int .i64 0], .slice none 0 0], []⟩ 8 (by kernel_rfl) (by kernel_rfl) (by kernel_rfl) (by kernel_rfl)) ?_
  intro W base args ds gs before hval0 hW hcnd _
  have hval : ∀ (j : Nat) t v, Try.f3.params[j]? = some t → args[j]? = some v → Value.okWide Try.prog W .any base t v := hval0
  have hW' := hW
  obtain ⟨p, q, hA0, hV, rfl, hfz, hnd⟩ := hW
  have hA : DataW.TrodAll enc Try.prog W 0 (fun _ => true) true Try.f3.params.toList args.toList ds p := hA0
  rw [Try.params3] at hA hval
  obtain ⟨v0, vs0, d0, ds0, p0, q0, hargs, rfl, rfl, h0, r0⟩ := trodAll_cons hA
  obtain ⟨v1, vs1, d1, ds1, p1, q1, rfl, rfl, rfl, h1, r1⟩ := trodAll_cons r0
  obtain ⟨rfl, rfl, rfl⟩ := trodAll_nil r1
  obtain rfl : args = #[v0, v1] := by cases args; simp_all
  obtain ⟨rfl, rfl⟩ := trodVars_none hV
  have k0 := h0
  have k1 := h1
  have lt0 : ∀ x ∈ p0, x.block < W.heap.size := by obtain ⟨m, hm⟩ := k0; exact DataW.trod_lt m _ _ _ hm
  have lt1 : ∀ x ∈ p1, x.block < W.heap.size := by obtain ⟨m, hm⟩ := k1; exact DataW.trod_lt m _ _ _ hm
  obtain ⟨cs0, rfl, hsz0⟩ := okWide_struct Try.underlying23 (hval 0 23 v0 rfl rfl)
  obtain ⟨s, rfl, hs⟩ : ∃ s : Stp, cs0 = #[.int .i64 s.kind, .int .i64 s.lun, .string s.host, .int .i64 s.why] ∧ s.ok := by
    obtain ⟨fuel, hf⟩ := h0
    obtain ⟨s, e, hs⟩ := stp_of hf
    refine ⟨s, ?_, hs⟩
    simp [Value.cells] at e
    have e2 : cs0 = cs0.toList.toArray := by simp
    rw [e2, e]
  obtain ⟨a1, len, cap, rfl⟩ := okWide_slice Try.underlying24 (hval 1 24 v1 rfl rfl)
  obtain ⟨S, hlen, hS⟩ : ∃ S : Nat → Stp, len ≤ 9223372036854775807 ∧ ∀ j, j < len → (S j).ok ∧ ∃ sb so, a1 = some ⟨sb, so, none⟩ ∧ StpAt W sb (so + j * 4) (S j) := by
    obtain ⟨fuel, hf⟩ := h1
    rcases open_slice Try.underlying24 hf with ⟨hcs, _⟩ | ⟨x, l, c, m, n, D, Pl, hcs, _, hl, hm, hmm, _, hel⟩
    · simp [Value.cells] at hcs
      obtain ⟨rfl, rfl, rfl⟩ := hcs
      exact ⟨fun _ => ⟨0, 0, ByteArray.empty, 0⟩, by omega, fun j hj => by omega⟩
    · simp [Value.cells] at hcs
      obtain ⟨rfl, rfl, rfl⟩ := hcs
      have hlm : len ≤ m := by rw [hmm]; split <;> omega
      have hl63 : len ≤ 9223372036854775807 := by unfold maxLen at hm; omega
      by_cases hz : len = 0
      · subst hz
        exact ⟨fun _ => ⟨0, 0, ByteArray.empty, 0⟩, by omega, fun j hj => by omega⟩
      obtain ⟨sb, so, spot⟩ := x
      have hspot : spot = none := by
        obtain ⟨cs', hc1, hc2⟩ := hel 0 (by omega)
        obtain ⟨s, rfl, _⟩ := stp_of hc2
        rw [cellsStep] at hc1
        obtain ⟨_, _, hc3⟩ := World.cells?_some hc1
        have c0 := hc3 0 (by omega)
        simp only [List.getElem?_cons_zero] at c0
        simpa [Addr.add] using World.cell?_spot c0
      subst hspot
      obtain ⟨S, hS⟩ := choose_lt (n := len) (p := fun j (s : Stp) => s.ok ∧ ∃ sb' so', some (⟨sb, so, none⟩ : Addr) = some (⟨sb', so', none⟩ : Addr) ∧ StpAt W sb' (so' + j * 4) s) (fun j hj => by
        obtain ⟨cs', hc1, hc2⟩ := hel j (by omega)
        obtain ⟨s, rfl, hs⟩ := stp_of hc2
        rw [cellsStep] at hc1
        obtain ⟨_, _, hc3⟩ := World.cells?_some hc1
        have c0 := hc3 0 (by omega)
        have c1 := hc3 1 (by omega)
        have c2 := hc3 2 (by omega)
        have c3 := hc3 3 (by omega)
        simp only [List.getElem?_cons_zero, List.getElem?_cons_succ] at c0 c1 c2 c3
        simp only [add_plain, Nat.add_zero] at c0 c1 c2 c3
        exact ⟨s, hs, sb, so, rfl, c0, c1, c2, c3⟩)
      exact ⟨S, hl63, hS⟩
  clear hA0 hval0
  refine (apart_any W s hs a1 len cap S hlen hS).mono fun e W' ⟨he, bel⟩ => ?_
  subst he
  exact ⟨_, rfl, _, _, _, [], _, [], hW', trodAll_mk1 (shut_bool Try.underlying4 _), (trodAll_cons_mk (Below.trod u_laidOut (by kernel_rfl) (of_decide_eq_true (by kernel_rfl)) k0 bel lt0) (trodAll_cons_mk (Below.trod u_laidOut (by kernel_rfl) (of_decide_eq_true (by kernel_rfl)) k1 bel lt1) trodAll_mk0)), rfl, bel.frame _, fun h => by cases h⟩

theorem over : Rows.unitsApartRow.holds Try.pinned (OpenSpec.ofChange Rows.unitsApartSpec) :=
  OpenClaim.holds_of_wide 3 Try.f3 rfl rfl rfl rfl rfl rfl rfl ⟨rfl, rfl, rfl, rfl, rfl⟩ rfl rfl rfl rfl rfl (by kernel_rfl) Try.func3 (by kernel_rfl)
    (of_decide_eq_true (by kernel_rfl)) (by unfold Func.isWrapper; first | (rw [if_pos (by decide +kernel)]; kernel_rfl) | (rw [if_neg (by decide +kernel)]; exact ⟨rfl, rfl⟩))
    (fun os started H enc _ => lifted os started H enc)

theorem proved : Rows.UnitsApartSaid := over
end Go.Proofs.Ytbcofdecdknkeaa.unitsApart
