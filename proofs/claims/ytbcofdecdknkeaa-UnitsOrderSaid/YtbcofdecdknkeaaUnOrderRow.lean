/- 'UnitsOrder' answers true for every input: what was added is taken in its order, each once; at most eight wait, the newest ones. No condition. -/
import Derived.Test.YtbcofdecdknkeaaRows
import Derived.Test.YtbcofdecdknkeaaUnOrderLaw
import Derived.ProofKit
import Derived.OpenShut
import Derived.ShutString
import Derived.ChangeOld
import Derived.Deep.Slices
import Derived.Lib.SmallJoins
namespace Go.Proofs.Ytbcofdecdknkeaa.unitsOrder
open Go.ChangeShapes Go.WideShapes Go.ChangeAt Go.RowKit Go.Deep Go.Joins
open Go.ChangeMaps (open_string shut_string)
set_option maxRecDepth 100000

theorem own : ownKnob Try.prog.godebug = none := by kernel_rfl
theorem addr_zero (a : Addr) : a.add 0 = a := by
  obtain ⟨b, o, s⟩ := a
  unfold Addr.add
  split <;> simp_all
theorem open_row {H : Type} {enc : TypeId × Value → H} {w : World} {base : Nat} {spare : Nat → Bool} {held : Bool} {r : Reach} {b0 : Nat} {v : Value} {d : DataW H} {p : List MemPlace} (hv : Value.okWide Try.prog w r b0 34 v) (h : DataW.Trod enc Try.prog w base spare held 34 v d p) :
    ∃ (a1 : Option Addr) (len cap : Nat) (S : Nat → Int), v = .slice a1 len cap ∧ len ≤ maxLen ∧ IntRow w a1 len S := by
  obtain ⟨a1, len, cap, rfl⟩ := okWide_slice Try.underlying34 hv
  obtain ⟨fuel, hf⟩ := h
  rcases open_slice Try.underlying34 hf with ⟨hcs, _⟩ | ⟨x, l, c, m, n, D, Pl, hcs, _, hl, hm, hmm, _, hel⟩
  · simp [Value.cells] at hcs
    obtain ⟨rfl, rfl, rfl⟩ := hcs
    exact ⟨none, 0, 0, fun _ => 0, rfl, by omega, fun j hj => by omega⟩
  · simp [Value.cells] at hcs
    obtain ⟨rfl, rfl, rfl⟩ := hcs
    have hlm : len ≤ m := by rw [hmm]; split <;> omega
    by_cases hz : len = 0
    · subst hz
      exact ⟨_, 0, _, fun _ => 0, rfl, by omega, fun j hj => by omega⟩
    obtain ⟨sb, so, spot⟩ := x
    have one : ∀ j, j < len → ∃ s : Int, (Lit.int .i64 s).wf = true ∧ w.cell? (Addr.add ⟨sb, so, spot⟩ j) = some (.int .i64 s) := fun j hj => by
      obtain ⟨cs', hc1, hc2⟩ := hel j (by omega)
      rw [u_cellsInt] at hc1
      obtain ⟨s, rfl, _, hs⟩ := DataW.trod_int Try.underlying3 hc2
      obtain ⟨_, _, hc3⟩ := World.cells?_some hc1
      have c0 := hc3 0 (by omega)
      simp only [List.getElem?_cons_zero, Nat.mul_one] at c0
      rw [addr_zero] at c0
      exact ⟨s, hs, c0⟩
    have hspot : spot = none := by
      obtain ⟨s, _, c0⟩ := one 0 (by omega)
      simpa [Addr.add] using World.cell?_spot c0
    subst hspot
    obtain ⟨S, hS⟩ := choose_lt (n := len) (p := fun j (s : Int) => (Lit.int .i64 s).wf = true ∧ ∃ sb' so', some (⟨sb, so, none⟩ : Addr) = some (⟨sb', so', none⟩ : Addr) ∧ w.cell? ⟨sb', so' + j, none⟩ = some (.int .i64 s)) (fun j hj => by
      obtain ⟨s, hs, c0⟩ := one j hj
      rw [add_plain] at c0
      exact ⟨s, hs, sb, so, rfl, c0⟩)
    exact ⟨_, len, cap, S, rfl, by omega, hS⟩

theorem lifted (os : Os) (started : os.Started) (H : Type) (enc : TypeId × Value → H) :
    ReturnsInHanded {} Try.checked os 4 .any (Rows.unitsOrderSpec.pre6 enc Try.prog Try.f4 Rows.unitsOrderRow.domain false) (Rows.unitsOrderSpec.post enc Try.prog Try.f4 false true false false) := by
  refine returnsInHanded_of_change (C := Try.checked) own started (by kernel_rfl) Try.func4
    (ChangeSpec.witness6 (enc := enc) (C := Try.checked) false ⟨#[], #[.int .i64 0, .string ByteArray.empty, .slice none 0 0], []⟩ 8 (by kernel_rfl) (by kernel_rfl) (by kernel_rfl) (by kernel_rfl)) ?_
  intro W base args ds gs before hval0 hW hcnd _
  have hval : ∀ (j : Nat) t v, Try.f4.params[j]? = some t → args[j]? = some v → Value.okWide Try.prog W .any base t v := hval0
  have hW' := hW
  obtain ⟨p, q, hA0, hV, rfl, hfz, hnd⟩ := hW
  have hA : DataW.TrodAll enc Try.prog W 0 (fun _ => true) true Try.f4.params.toList args.toList ds p := hA0
  rw [Try.params4] at hA hval
  obtain ⟨v0, vs0, d0, ds0, p0, q0, hargs, rfl, rfl, h0, r0⟩ := trodAll_cons hA
  obtain ⟨v1, vs1, d1, ds1, p1, q1, rfl, rfl, rfl, h1, r1⟩ := trodAll_cons r0
  obtain ⟨v2, vs2, d2, ds2, p2, q2, rfl, rfl, rfl, h2, r2⟩ := trodAll_cons r1
  obtain ⟨rfl, rfl, rfl⟩ := trodAll_nil r2
  obtain rfl : args = #[v0, v1, v2] := by cases args; simp_all
  obtain ⟨rfl, rfl⟩ := trodVars_none hV
  have k0 := h0
  have k1 := h1
  have k2 := h2
  have lt0 : ∀ x ∈ p0, x.block < W.heap.size := by obtain ⟨m, hm⟩ := k0; exact DataW.trod_lt m _ _ _ hm
  have lt1 : ∀ x ∈ p1, x.block < W.heap.size := by obtain ⟨m, hm⟩ := k1; exact DataW.trod_lt m _ _ _ hm
  have lt2 : ∀ x ∈ p2, x.block < W.heap.size := by obtain ⟨m, hm⟩ := k2; exact DataW.trod_lt m _ _ _ hm
  obtain ⟨n, rfl, _, _, wn⟩ := open_int Try.underlying3 (hval 0 3 v0 rfl rfl) h0
  obtain ⟨s, rfl, _, _, hs⟩ := open_string Try.underlying9 (hval 1 9 v1 rfl rfl) h1
  obtain ⟨a1, len, cap, Z, rfl, hl, hZ⟩ := open_row (hval 2 34 v2 rfl rfl) h2
  clear hA0 hval0
  refine (unitsOrder_any n s a1 len cap Z W wn hs hl hZ).mono fun e W' ⟨he, bel⟩ => ?_
  subst he
  exact ⟨_, rfl, _, _, _, [], _, [], hW', trodAll_mk1 (shut_bool Try.underlying4 _), (trodAll_cons_mk (Below.trod u_laidOut (by kernel_rfl) (of_decide_eq_true (by kernel_rfl)) k0 bel lt0) (trodAll_cons_mk (Below.trod u_laidOut (by kernel_rfl) (of_decide_eq_true (by kernel_rfl)) k1 bel lt1) (trodAll_cons_mk (Below.trod u_laidOut (by kernel_rfl) (of_decide_eq_true (by kernel_rfl)) k2 bel lt2) trodAll_mk0))), rfl, bel.frame _, fun h => by cases h⟩

theorem over : Rows.unitsOrderRow.holds Try.pinned (OpenSpec.ofChange Rows.unitsOrderSpec) :=
  OpenClaim.holds_of_wide 4 Try.f4 rfl rfl rfl rfl rfl rfl rfl ⟨rfl, rfl, rfl, rfl, rfl⟩ rfl rfl rfl rfl rfl (by kernel_rfl) Try.func4 (by kernel_rfl)
    (of_decide_eq_true (by kernel_rfl)) (by unfold Func.isWrapper; first | (rw [if_pos (by decide +kernel)]; kernel_rfl) | (rw [if_neg (by decide +kernel)]; exact ⟨rfl, rfl⟩))
    (fun os started H enc _ => lifted os started H enc)

theorem proved : Rows.UnitsOrderSaid := over
end Go.Proofs.Ytbcofdecdknkeaa.unitsOrder
