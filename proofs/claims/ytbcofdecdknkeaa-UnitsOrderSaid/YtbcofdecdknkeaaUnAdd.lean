/- units: Add, with slices.Clone: what they answer, and what they leave. -/
import Derived.Test.YtbcofdecdknkeaaUnForget
import Derived.Deep.RegionHeld3
namespace Go.Proofs.Ytbcofdecdknkeaa
open Go.RowKit Go.Deep Go.Maps

set_option maxHeartbeats 1000000 in
set_option maxRecDepth 100000 in
theorem u_eql_nil (w : World) (a : Option Addr) (l c : Nat) : (binOp .eql 34 (.slice a l c) (.slice none 0 0)).run Try.prog w = .ok (.bool a.isNone) w :=
  Lib.run_eql_slice_nil w _ 3 a l c 0 0 Try.underlying34
theorem u_info : (Try.prog.info? 3).map (fun i => (i.zero, i.size, i.bytes)) = some (some (.int .i64 0), 1, 8) := by kernel_rfl

def ints (xs : List Int) : List Value := xs.map fun x => .int .i64 x
theorem ints_len (xs : List Int) : (ints xs).length = xs.length := by simp [ints]
theorem ints_at (xs : List Int) (j : Nat) (u : Value) (h : (ints xs)[j]? = some u) : j < xs.length ∧ u = .int .i64 (xs.getD j 0) := by
  unfold ints at h
  rw [List.getElem?_map] at h
  cases hx : xs[j]? with
  | none => rw [hx] at h; cases h
  | some x =>
    rw [hx] at h
    have hlt : j < xs.length := (List.getElem?_eq_some_iff.1 hx).1
    refine ⟨hlt, ?_⟩
    simp only [Option.map_some, Option.some.injEq] at h
    rw [← h, List.getD_eq_getElem?_getD, hx]
    rfl
theorem ints_one (xs : List Int) : ∀ u ∈ ints xs, u.oneCell' = true := by
  intro u hu
  unfold ints at hu
  obtain ⟨x, _, rfl⟩ := List.mem_map.1 hu
  rfl
theorem add_plain (g o j : Nat) : (⟨g, o, none⟩ : Addr).add j = ⟨g, o + j, none⟩ := by unfold Addr.add; split <;> simp_all

set_option maxHeartbeats 1000000 in
set_option maxRecDepth 100000 in
theorem clone_nil (w : World) : Calls Try.prog 22 #[.slice none 0 0] w fun e w' => e = .returned (.slice none 0 0) ∧ w = w' := by
  have heq := u_eql_nil
  go_enter Try.func22, Try.ntmps22
  go_wp2
  go_ret
  exact ⟨rfl, rfl⟩

def Cloned (B : Nat) (w : World) (xs : List Int) (e : Ending) (w' : World) : Prop := ∃ v, e = .returned v ∧ w'.ownsRow B 3 1 v xs.length (ints xs) ∧ Below w.heap.size w w'

set_option maxHeartbeats 1000000 in
set_option maxRecDepth 100000 in
theorem clone_any (B : Nat) (w : World) (hB : B ≤ w.heap.size) (F : Nat → Prop) (v : Value) (xs : List Int) (h : Ints w F v xs) (hx : xs.length ≤ 8) : Calls Try.prog 22 #[v] w (Cloned B w xs) := by
  rcases h with ⟨rfl, rfl⟩ | ⟨g, o, cap, rfl, _, hcap, hF, hg, hcell⟩
  · refine (clone_nil w).mono ?_
    rintro e w' ⟨rfl, rfl⟩
    exact ⟨_, rfl, World.ownsRow_nil _ _ _ _, Below.refl _ _⟩
  · have heq := u_eql_nil
    obtain ⟨i0, hi, hz0, hz1, hz2⟩ := info_parts u_info
    have hnews : ∀ j u, (ints xs)[j]? = some u → (w.alloc (.cells #[] 3)).cell? ((⟨g, o, none⟩ : Addr).add j) = some u := fun j u hu => by
      obtain ⟨hj, rfl⟩ := ints_at xs j u hu
      rw [add_plain]
      exact cell_alloc (hcell j hj) _
    have hl := ints_len xs
    have hone := ints_one xs
    have hown := World.ownsRow_made (base := B) (e := 3) (size := 1) w #[] 0 hB (by unfold maxLen; omega) rfl
    have Hc := Lib.hid hcell
    have Hn := Lib.hid hnews
    have Ho := Lib.hid hone
    obtain ⟨L, hL⟩ : ∃ L, L = xs.length := ⟨_, rfl⟩
    rw [← hL] at hx hcap hl ⊢
    have Hl := Lib.hid hl
    have HL := Lib.hid hL
    clear hL
    clear hcell hnews hl hone
    go_enter Try.func22, Try.ntmps22
    have c1 : (ints xs).length = L * 1 := by rw [Hl.out]; omega
    have c2 : 0 + L ≤ maxLen := by unfold maxLen; omega
    have c3 : (0 + L) * 8 ≤ 140737488355328 := by omega
    have C1 := Lib.hid c1
    have C2 := Lib.hid c2
    have C3 := Lib.hid c3
    clear c1 c2 c3
    go_wp2_with (at_builtin; refine wpList_append_own _ rfl (.tmp 5) (.tmp 6) 34 rfl B 3 i0 (.int .i64 0) 1 8 Try.underlying34 hi hz0 hz1 hz2 rfl (by decide) _ 0 [] rfl hown ⟨g, o, none⟩ L cap (ints xs) rfl C1.out Hn.out Ho.out C2.out C3.out (by simp; omega) ?_; intro v' w1 hown1 hgrow1 _)
    simp only [Nat.zero_add, List.nil_append] at hown1
    go_wp2
    go_ret
    exact ⟨v', rfl, by rw [← HL.out]; exact hown1, ((Below.refl _ _).alloc (Nat.le_refl _) _).grown hgrow1 (by simp) (fun k e => Nat.le_of_eq (Option.some.inj e))⟩

theorem own_mono {w : World} {B B' : Nat} {e : TypeId} {size n : Nat} {v : Value} {xs : List Value} (h : w.ownsRow B e size v n xs) (hB : B' ≤ B) : w.ownsRow B' e size v n xs := by
  obtain ⟨h1, h2 | ⟨g, cap, cur, h2, h3, r⟩⟩ := h
  · exact ⟨h1, .inl h2⟩
  · exact ⟨h1, .inr ⟨g, cap, cur, h2, Nat.le_trans hB h3, r⟩⟩
theorem own_ne {w : World} {B : Nat} {e : TypeId} {size n : Nat} {v : Value} {xs : List Value} (h : w.ownsRow B e size v n xs) {k : Nat} (hk : k < B) : some k ≠ v.ownBlock := by
  intro hv
  have := (h.lt k hv.symm).1
  omega
theorem grown_below {w w' : World} {B : Nat} {e : TypeId} {size n : Nat} {v : Value} {xs : List Value} {w0 : World} (hb : Below w0.heap.size w0 w) (h : w.ownsRow B e size v n xs) (hB : w0.heap.size ≤ B) (hg : w.grownBy w' v.ownBlock) : Below w0.heap.size w0 w' :=
  hb.grown hg hb.size (fun k hk => Nat.le_trans hB (h.lt k hk).1)
theorem grown_below' {w w' : World} {B : Nat} {o : Obj} {e : TypeId} {size n : Nat} {v : Value} {xs : List Value} {w0 : World} (hb : Below w0.heap.size w0 w) (h : w.ownsRow B e size v n xs) (hB : w0.heap.size ≤ B) (hg : (w.alloc o).grownBy w' v.ownBlock) : Below w0.heap.size w0 w' :=
  grown_below (hb.alloc hb.size o) (h.alloc o) hB hg

theorem ints_of_own {w : World} {B g n cap : Nat} {xs : List Int} (h : w.ownsRow B 3 1 (.slice (some ⟨g, 0, none⟩) n cap) n (ints xs)) (hn : n = xs.length) (h0 : 0 < n) : Ints w (fun k => B ≤ k ∧ k < w.heap.size) (.slice (some ⟨g, 0, none⟩) n cap) xs := by
  have hc := h.cells (g := g) rfl
  have hlt := h.lt g rfl
  obtain ⟨_, ⟨h1, _⟩ | ⟨g', cap', cur, h1, _, _, h2, _⟩⟩ := h
  · cases h1
  · cases h1
    refine .inr ⟨g, 0, cap, by rw [hn], by omega, by omega, hlt, hlt.2, fun i hi => ?_⟩
    have := hc i (.int .i64 (xs.getD i 0)) (by
      unfold ints
      rw [List.getElem?_map, List.getElem?_eq_getElem hi, List.getD_eq_getElem?_getD, List.getElem?_eq_getElem hi]
      rfl)
    rw [add_plain] at this
    simpa using this
theorem ints_snoc (xs : List Int) (x : Int) : ints xs ++ [.int .i64 x] = ints (xs ++ [x]) := by simp [ints]

/-- the end of Add: what was appended stands in the map. -/
theorem add_end {w w5 w6 : World} {b n mb gg cap : Nat} {F : Nat → Prop} {f : Int → ByteArray → List Int} {D : DataW Value} {lun why : Int} {host : ByteArray} {l : List Int} {N : Nat} (h : UnitsAt w b n f F (some mb)) (hin : InMap w F mb n D f) (hl : (Lit.int .i64 lun).wf = true) (hh : host.size ≤ maxLen)
    (hgood : 0 ≤ lun ∧ lun < 8 ∧ nameB host = true) (hl7 : l.length ≤ 7) (hN : N = l.length + 1) (hb5 : Below w.heap.size w w5) (hown5 : w5.ownsRow w.heap.size 3 1 (.slice (some ⟨gg, 0, none⟩) N cap) N (ints l ++ [.int .i64 why]))
    (hown6 : w6.ownsMap Try.prog 50 RV mb (n + 1) (D.put (keyL lun host) (.held (.slice (some ⟨gg, 0, none⟩) N cap)))) (hturn : w5.mapTurned w6 mb) :
    Left w b (n + 1) F (upd f lun host (l ++ [why])) (.bool true) (.returned (.bool true)) w6 := by
  have hM6 : Mod (fun k => k = mb) w5 w6 := Mod.of_grown hturn.grown (fun k e => (Option.some.inj e).symm)
  have hM : Mod (fun k => k = mb) w w6 := (Mod.of_new (F := fun k => k = mb) hb5).trans hM6 (fun _ _ h => h)
  rw [ints_snoc] at hown5
  have hi := ints_of_own hown5 (by rw [hN]; simp) (by omega)
  have hi6 : Ints w6 (fun k => w.heap.size ≤ k ∧ k < w5.heap.size) (.slice (some ⟨gg, 0, none⟩) N cap) (l ++ [why]) := hi.keep hM6.size (fun _ _ hc => keep_map (own_stay hin.owns (hb5.block mb hin.owns.lt)) hM6 hc)
  exact left_map h (hin.put hl hh hown6 hM (fun _ _ h => .inl h) (hi6.mono (fun k _ hk => .inr ⟨hk.1, Nat.lt_of_lt_of_le hk.2 hM6.size⟩)) (by simp)) hM hin.inF (mb_ne h hin) (h.fair.upd (by simp; omega) (fun _ => hgood)) _
end Go.Proofs.Ytbcofdecdknkeaa
