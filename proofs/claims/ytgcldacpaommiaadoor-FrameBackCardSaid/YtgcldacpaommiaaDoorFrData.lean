/- frames: the rows' common part: the laid tables, and arguments opened (arrays of two, slices of texts and of writes). -/
import Derived.Test.YtgcldacpaommiaaDoorTie
import Derived.Test.YtgcldacpaommiaaDoorFrCrc
import Derived.Test.YtgcldacpaommiaaDoorFrMem
import Derived.ProofKit
import Derived.OpenShut
import Derived.ShutString
import Derived.ChangeOld
import Derived.Deep.Slices
import Derived.Lib.SmallJoins
import Derived.Lib.LaidTab
import Derived.Carry
namespace Go.Proofs.YtgcldacpaommiaaDoor
open Go.ChangeShapes Go.WideShapes Go.ChangeAt Go.RowKit Go.Deep Go.Joins

set_option maxRecDepth 100000
theorem addr_zero (a : Addr) : a.add 0 = a := by
  obtain ⟨b, o, s⟩ := a
  unfold Addr.add
  split <;> simp_all
theorem laidOut : laidOutB Tryd.prog = true := by kernel_rfl
theorem gTab : Tryd.prog.globalNamed "headgate/crc.steps" = some 0 := by kernel_rfl
theorem gTabType : (Tryd.prog.globals[0]?).map (·.type) = some 95 := by kernel_rfl
theorem cellsTab : Tryd.prog.cellsOf 95 = 16 := by kernel_rfl
theorem cellsU32 : Tryd.prog.cellsOf 75 = 1 := by kernel_rfl
theorem undTab : Tryd.prog.underlying 95 = some (.array 16 75) := by kernel_rfl
theorem undU32 : Tryd.prog.underlying 75 = some (.int .u32) := by kernel_rfl
theorem cellsInt : Tryd.prog.cellsOf 3 = 1 := by kernel_rfl
theorem cellsStr : Tryd.prog.cellsOf 9 = 1 := by kernel_rfl
theorem cellsArrI : Tryd.prog.cellsOf 38 = 2 := by kernel_rfl
theorem cellsArrS : Tryd.prog.cellsOf 55 = 2 := by kernel_rfl
theorem cellsWrite : Tryd.prog.cellsOf 46 = 2 := by kernel_rfl

def stepsL : List Int := [0, 274646895, 549293790, 820201905, 1098587580, 1361435347, 1640403810, 1905808397, 2197175160, 2460548119, 2722870694, 2987750089, 3280807620, 3553878443, 3811616794, 4084100981]
theorem steps_tab (i : Nat) (h : i < 16) : stepsL.getD i 0 = (tab i : Nat) := by
  have : ∀ j : Fin 16, stepsL.getD j.val 0 = (tab j.val : Nat) := by decide +kernel
  exact this ⟨i, h⟩

def litV : DataW Unit → List Value
  | .lit (.int k z) => [.int k z]
  | .agg l => l.flatMap fun
    | .lit (.int k z) => [.int k z]
    | .agg m => m.flatMap fun
      | .lit (.int k z) => [.int k z]
      | _ => []
    | _ => []
  | _ => []
def putCells (g : Nat) (d : DataW Unit) (h : Array Obj) : Array Obj := h.modify g fun
  | .cells _ t frozen => .cells (litV d).toArray t frozen
  | o => o

section
variable {H : Type} {enc : TypeId × Value → H} {P : Program} {w : World} {base : Nat} {spare : Nat → Bool} {held : Bool} {r : Reach} {b0 : Nat} {v : Value} {d : DataW H} {p : List MemPlace}
theorem okWide_array {t e : TypeId} {n : Nat} (ht : P.underlying t = some (.array n e)) (h : Value.okWide P w r base t v) : ∃ cs, v = .agg cs ∧ cs.size = P.cellsOf t := by
  simp only [Value.okWide, ht] at h
  obtain ⟨cs, h1, h2, _⟩ := h
  exact ⟨cs, h1, h2⟩
theorem open_arr2 {t e : TypeId} (ht : P.underlying t = some (.array 2 e)) (hc : P.cellsOf t = 2) (he : P.cellsOf e = 1) (hv : Value.okWide P w r b0 t v) (h : DataW.Trod enc P w base spare held t v d p) :
    ∃ v0 v1 y0 y1 n, v = .agg #[v0, v1] ∧ DataW.trod enc P w base spare held n e [v0] = some y0 ∧ DataW.trod enc P w base spare held n e [v1] = some y1 := by
  obtain ⟨cs, rfl, hs⟩ := okWide_array ht hv
  obtain ⟨c0, c1, rfl⟩ := array2 (hs.trans hc)
  obtain ⟨fuel, hf⟩ := h
  obtain ⟨xs, m, _, _, _, hl, hd⟩ := DataW.trod_array ht hf
  have h0 := hd 0 (by omega)
  have h1 := hd 1 (by omega)
  rw [List.getElem?_eq_getElem (by omega)] at h0 h1
  exact ⟨c0, c1, _, _, m, rfl, by simpa [he, Value.cells] using h0, by simpa [he, Value.cells] using h1⟩
end

section
variable {H : Type} {enc : TypeId × Value → H} {w : World} {base : Nat} {spare : Nat → Bool} {held : Bool} {r : Reach} {b0 : Nat} {v : Value} {d : DataW H} {p : List MemPlace}
theorem open_arr_int (hv : Value.okWide Tryd.prog w r b0 38 v) (h : DataW.Trod enc Tryd.prog w base spare held 38 v d p) : ∃ a b, v = .agg #[.int .i64 a, .int .i64 b] := by
  obtain ⟨v0, v1, y0, y1, n, rfl, h0, h1⟩ := open_arr2 Tryd.underlying38 cellsArrI cellsInt hv h
  obtain ⟨a, e0, _, _⟩ := DataW.trod_int Tryd.underlying3 h0
  obtain ⟨b, e1, _, _⟩ := DataW.trod_int Tryd.underlying3 h1
  simp only [List.cons.injEq, and_true] at e0 e1
  subst e0 e1
  exact ⟨a, b, rfl⟩
theorem open_arr_str (hv : Value.okWide Tryd.prog w r b0 55 v) (h : DataW.Trod enc Tryd.prog w base spare held 55 v d p) : ∃ a b, v = .agg #[.string a, .string b] ∧ a.size ≤ maxLen ∧ b.size ≤ maxLen := by
  obtain ⟨v0, v1, y0, y1, n, rfl, h0, h1⟩ := open_arr2 Tryd.underlying55 cellsArrS cellsStr hv h
  obtain ⟨a, e0, _, wa⟩ := DataW.trod_string Tryd.underlying9 h0
  obtain ⟨b, e1, _, wb⟩ := DataW.trod_string Tryd.underlying9 h1
  simp only [List.cons.injEq, and_true] at e0 e1
  subst e0 e1
  exact ⟨a, b, rfl, wa, wb⟩

instance : Inhabited Wr := ⟨⟨0, ByteArray.empty⟩⟩
theorem wr_of {n : Nat} {cs : List Value} {x : DataW H × List MemPlace} (h : DataW.trod enc Tryd.prog w base spare held n 46 cs = some x) :
    ∃ s : Wr, cs = [.int .i64 s.at', .string s.data] ∧ s.ok := by
  obtain ⟨y0, y1, m, _, hlen, h0, h1⟩ := trod_struct2 Tryd.underlying46 h
  rw [cellsWrite] at hlen
  match cs, hlen with
  | [v0, v1], _ =>
    obtain ⟨k, e0, _, wk⟩ := DataW.trod_int Tryd.underlying3 h0
    obtain ⟨s, e1, _, ws⟩ := DataW.trod_string Tryd.underlying9 h1
    simp only [cellsInt, cellsStr, List.drop_zero, List.take_succ_cons, List.take_zero, List.drop_succ_cons, List.cons.injEq, and_true] at e0 e1
    subst e0 e1
    exact ⟨⟨k, s⟩, rfl, ⟨wk, ws⟩⟩
theorem open_writes (hv : Value.okWide Tryd.prog w r b0 44 v) (h : DataW.Trod enc Tryd.prog w base spare held 44 v d p) :
    ∃ (a1 : Option Addr) (len cap : Nat) (S : Nat → Wr), v = .slice a1 len cap ∧ len ≤ maxLen ∧ WrRow w a1 len S ∧ (a1 = none → len = 0 ∧ cap = 0) := by
  obtain ⟨a1, len, cap, rfl⟩ := okWide_slice Tryd.underlying44 hv
  obtain ⟨fuel, hf⟩ := h
  rcases open_slice Tryd.underlying44 hf with ⟨hcs, _⟩ | ⟨x, l, c, m, n, D, Pl, hcs, _, hl, hm, hmm, _, hel⟩
  · simp [Value.cells] at hcs
    obtain ⟨rfl, rfl, rfl⟩ := hcs
    exact ⟨none, 0, 0, fun _ => default, rfl, by omega, fun j hj => by omega, fun _ => ⟨rfl, rfl⟩⟩
  · simp [Value.cells] at hcs
    obtain ⟨rfl, rfl, rfl⟩ := hcs
    have hlm : len ≤ m := by rw [hmm]; split <;> omega
    by_cases hz : len = 0
    · subst hz
      exact ⟨_, 0, _, fun _ => default, rfl, by omega, fun j hj => by omega, fun h => by cases h⟩
    obtain ⟨sb, so, spot⟩ := x
    have hspot : spot = none := by
      obtain ⟨cs', hc1, hc2⟩ := hel 0 (by omega)
      obtain ⟨s, rfl, _⟩ := wr_of hc2
      rw [cellsWrite] at hc1
      obtain ⟨_, _, hc3⟩ := World.cells?_some hc1
      have c0 := hc3 0 (by omega)
      simp only [List.getElem?_cons_zero] at c0
      simpa [Addr.add] using World.cell?_spot c0
    subst hspot
    obtain ⟨S, hS⟩ := choose_lt (n := len) (p := fun j (s : Wr) => s.ok ∧ ∃ sb' so', some (⟨sb, so, none⟩ : Addr) = some (⟨sb', so', none⟩ : Addr) ∧ w.cell? ⟨sb', so' + j * 2, none⟩ = some (.int .i64 s.at') ∧ w.cell? ⟨sb', so' + j * 2 + 1, none⟩ = some (.string s.data)) (fun j hj => by
      obtain ⟨cs', hc1, hc2⟩ := hel j (by omega)
      obtain ⟨s, rfl, hs⟩ := wr_of hc2
      rw [cellsWrite] at hc1
      obtain ⟨_, _, hc3⟩ := World.cells?_some hc1
      have c0 := hc3 0 (by omega)
      have c1 := hc3 1 (by omega)
      simp only [List.getElem?_cons_zero, List.getElem?_cons_succ] at c0 c1
      simp only [add_plain, Nat.add_zero] at c0 c1
      exact ⟨s, hs, sb, so, rfl, c0, c1⟩)
    exact ⟨_, len, cap, S, rfl, by omega, hS, fun h => by cases h⟩
theorem open_strs (hv : Value.okWide Tryd.prog w r b0 42 v) (h : DataW.Trod enc Tryd.prog w base spare held 42 v d p) :
    ∃ (a1 : Option Addr) (len cap : Nat) (S : Nat → ByteArray), v = .slice a1 len cap ∧ len ≤ maxLen ∧ StrRow w a1 len S := by
  obtain ⟨a1, len, cap, rfl⟩ := okWide_slice Tryd.underlying42 hv
  obtain ⟨fuel, hf⟩ := h
  rcases open_slice Tryd.underlying42 hf with ⟨hcs, _⟩ | ⟨x, l, c, m, n, D, Pl, hcs, _, hl, hm, hmm, _, hel⟩
  · simp [Value.cells] at hcs
    obtain ⟨rfl, rfl, rfl⟩ := hcs
    exact ⟨none, 0, 0, fun _ => default, rfl, by omega, fun j hj => by omega⟩
  · simp [Value.cells] at hcs
    obtain ⟨rfl, rfl, rfl⟩ := hcs
    have hlm : len ≤ m := by rw [hmm]; split <;> omega
    by_cases hz : len = 0
    · subst hz
      exact ⟨_, 0, _, fun _ => default, rfl, by omega, fun j hj => by omega⟩
    obtain ⟨sb, so, spot⟩ := x
    have one : ∀ j, j < len → ∃ s : ByteArray, s.size ≤ maxLen ∧ w.cell? (Addr.add ⟨sb, so, spot⟩ j) = some (.string s) := fun j hj => by
      obtain ⟨cs', hc1, hc2⟩ := hel j (by omega)
      rw [cellsStr] at hc1
      obtain ⟨s, rfl, _, hs⟩ := DataW.trod_string Tryd.underlying9 hc2
      obtain ⟨_, _, hc3⟩ := World.cells?_some hc1
      have c0 := hc3 0 (by omega)
      simp only [List.getElem?_cons_zero, Nat.mul_one] at c0
      exact ⟨s, hs, by rwa [addr_zero] at c0⟩
    have hspot : spot = none := by
      obtain ⟨s, _, c0⟩ := one 0 (by omega)
      simpa [Addr.add] using World.cell?_spot c0
    subst hspot
    obtain ⟨S, hS⟩ := choose_lt (n := len) (p := fun j (s : ByteArray) => s.size ≤ maxLen ∧ ∃ sb' so', some (⟨sb, so, none⟩ : Addr) = some (⟨sb', so', none⟩ : Addr) ∧ w.cell? ⟨sb', so' + j, none⟩ = some (.string s)) (fun j hj => by
      obtain ⟨s, hs, c0⟩ := one j hj
      rw [add_plain] at c0
      exact ⟨s, hs, sb, so, rfl, c0⟩)
    exact ⟨_, len, cap, S, rfl, by omega, hS⟩
end
end Go.Proofs.YtgcldacpaommiaaDoor
