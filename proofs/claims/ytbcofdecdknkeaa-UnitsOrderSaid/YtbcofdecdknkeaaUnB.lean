/- units: the contracts for a Units that the call itself made (all that it holds lies from block B on), and the law's own wakes. -/
import Derived.Test.YtbcofdecdknkeaaUnAddAny
namespace Go.Proofs.Ytbcofdecdknkeaa
open Go.RowKit Go.Deep Go.Maps

structure UnB (B : Nat) (w : World) (b n : Nat) (f : Int → ByteArray → List Int) : Prop where
  size : B ≤ w.heap.size
  at_ : ∃ m, UnitsAt w b n f (fun k => B ≤ k) m
theorem UnB.of_left {B b n : Nat} {w w' : World} {f : Int → ByteArray → List Int} {v : Value} {e : Ending} (hB : B ≤ w.heap.size) (h : Left w b n (fun k => B ≤ k) f v e w') : e = .returned v ∧ UnB B w' b n f ∧ Below B w w' := by
  obtain ⟨rfl, ⟨m, h1⟩, h2⟩ := h
  exact ⟨rfl, ⟨Nat.le_trans hB h2.size, m, h1.mono (fun k _ hk => by rcases hk with hk | hk; exact hk; exact Nat.le_trans hB hk.1)⟩, h2.below (fun i hi hk => by omega) hB⟩
theorem UnB.stay {B b n : Nat} {w w' : World} {f : Int → ByteArray → List Int} (h : UnB B w b n f) (hb : Below w.heap.size w w') : UnB B w' b n f := by
  obtain ⟨hB, m, h1⟩ := h
  exact ⟨Nat.le_trans hB hb.size, m, h1.stay (Mod.of_new (F := fun _ => False) hb) (fun _ _ h => h)⟩

theorem new_b (w : World) : Calls Try.prog 6 #[] w fun e w' => e = .returned (.pointer (some ⟨w.heap.size, 0, none⟩)) ∧ UnB w.heap.size w' w.heap.size 0 (fun _ _ => []) ∧ Below w.heap.size w w' := by
  refine (new_any w).mono ?_
  rintro e w' ⟨rfl, h1, h2, h3⟩
  exact ⟨rfl, ⟨h2.size, none, h1.mono (fun k _ hk => Nat.le_of_eq hk.symm)⟩, h2⟩
theorem add_b (B b n : Nat) (f : Int → ByteArray → List Int) (lun why : Int) (host : ByteArray) (w : World) (h : UnB B w b n f) (hn : n < maxLen) (hh : host.size ≤ maxLen) :
    Calls Try.prog 7 #[.pointer (some ⟨b, 0, none⟩), .int .i64 lun, .string host, .int .i64 why] w fun e w' => e = .returned (.bool (addR f lun host why)) ∧ UnB B w' b (n + 1) (addF f lun host why) ∧ Below B w w' := by
  obtain ⟨hB, m, h⟩ := h
  refine (add_any b n f _ m lun why host w h hn hh).mono ?_
  intro e w' h
  exact UnB.of_left hB h
theorem take_b (B b n : Nat) (f : Int → ByteArray → List Int) (lun : Int) (host : ByteArray) (w : World) (h : UnB B w b n f) (hn : n < maxLen) (hl : (Lit.int .i64 lun).wf = true) (hh : host.size ≤ maxLen) :
    Calls Try.prog 9 #[.pointer (some ⟨b, 0, none⟩), .int .i64 lun, .string host] w fun e w' => e = .returned (.tuple #[.int .i64 ((f lun host).headD 0), .bool (!(f lun host).isEmpty)]) ∧ UnB B w' b (n + 1) (upd f lun host (f lun host).tail) ∧ Below B w w' := by
  obtain ⟨hB, m, h⟩ := h
  refine (take_any b n f _ m lun host w h hn hl hh).mono ?_
  intro e w' h
  exact UnB.of_left hB h
theorem forget_b (B b n : Nat) (f : Int → ByteArray → List Int) (host : ByteArray) (w : World) (h : UnB B w b n f) (hh : host.size ≤ maxLen) :
    Calls Try.prog 10 #[.pointer (some ⟨b, 0, none⟩), .string host] w fun e w' => e = .returned (.tuple #[]) ∧ UnB B w' b n (fgt f host 8) ∧ Below B w w' := by
  obtain ⟨hB, m, h⟩ := h
  refine (forget_any b n f _ m host w h hh).mono ?_
  intro e w' h
  exact UnB.of_left hB h
theorem wait_b (B b n : Nat) (f : Int → ByteArray → List Int) (lun : Int) (host : ByteArray) (w : World) (h : UnB B w b n f) (hl : (Lit.int .i64 lun).wf = true) (hh : host.size ≤ maxLen) :
    Calls Try.prog 11 #[.pointer (some ⟨b, 0, none⟩), .int .i64 lun, .string host] w fun e w' => e = .returned (.int .i64 (f lun host).length) ∧ w = w' := by
  obtain ⟨hB, m, h⟩ := h
  exact wait_any b n f _ m lun host w h hl hh

/-! ### wakes -/
def hA : ByteArray := ⟨#[97]⟩
theorem hA_name : nameB hA = true := by decide +kernel
theorem hA_size : hA.size ≤ maxLen := by unfold maxLen; decide
def st (l : List Int) : Int → ByteArray → List Int := upd (fun _ _ => []) 0 hA l
theorem st_at (l : List Int) : st l 0 hA = l := upd_same _ _ _ _
theorem st_upd (l m : List Int) : upd (st l) 0 hA m = st m := by
  funext a b
  unfold st upd
  split <;> rfl
theorem st_none : (fun _ _ => []) = st [] := (upd_id _ _ _ _ rfl).symm
theorem st_addR (l : List Int) (why : Int) (h : 1 ≤ why ∧ why ≤ 4) : addR (st l) 0 hA why = !(l.getLast? == some why) := by
  unfold addR
  rw [hA_name, st_at, decide_eq_true ⟨by omega, by omega, h.1, h.2⟩]
  rfl
theorem st_addF (l : List Int) (why : Int) (h : addR (st l) 0 hA why = true) (hl : l.length < 8) : addF (st l) 0 hA why = st (l ++ [why]) := by
  unfold addF
  rw [if_pos h, st_at, if_neg (by omega), st_upd]

theorem add_w (B b n : Nat) (l l' : List Int) (why : Int) (r : Bool) (w : World) (h : UnB B w b n (st l)) (hn : n < maxLen) (hr : addR (st l) 0 hA why = r) (hf : addF (st l) 0 hA why = st l') :
    Calls Try.prog 7 #[.pointer (some ⟨b, 0, none⟩), .int .i64 0, .string hA, .int .i64 why] w fun e w' => e = .returned (.bool r) ∧ UnB B w' b (n + 1) (st l') ∧ Below B w w' := by
  rw [← hr, ← hf]
  exact add_b B b n _ 0 why hA w h hn hA_size
theorem take_w (B b n : Nat) (l l' : List Int) (x : Int) (r : Bool) (w : World) (h : UnB B w b n (st l)) (hn : n < maxLen) (hx : l.headD 0 = x) (hr : (!l.isEmpty) = r) (hl : l.tail = l') :
    Calls Try.prog 9 #[.pointer (some ⟨b, 0, none⟩), .int .i64 0, .string hA] w fun e w' => e = .returned (.tuple #[.int .i64 x, .bool r]) ∧ UnB B w' b (n + 1) (st l') ∧ Below B w w' := by
  have := take_b B b n _ 0 hA w h hn (by decide) hA_size
  rw [st_at, st_upd] at this
  rw [← hx, ← hr, ← hl]
  exact this

set_option maxHeartbeats 1000000 in
set_option maxRecDepth 100000 in
theorem wakes_any (w : World) : Calls Try.prog 8 #[] w fun e w' => e = .returned (.bool true) ∧ Below w.heap.size w w' := by
  have r1 : addR (st []) 0 hA 2 = true := by rw [st_addR _ _ (by omega)]; rfl
  have r2 : addR (st [2]) 0 hA 3 = true := by rw [st_addR _ _ (by omega)]; rfl
  have r3 : addR (st [2, 3]) 0 hA 3 = false := by rw [st_addR _ _ (by omega)]; rfl
  have a1 := fun B b w h => add_w B b 0 [] [2] 2 true w h (by unfold maxLen; omega) r1 (st_addF _ _ r1 (by simp))
  have a2 := fun B b w h => add_w B b 1 [2] [2, 3] 3 true w h (by unfold maxLen; omega) r2 (st_addF _ _ r2 (by simp))
  have a3 := fun B b w h => add_w B b 2 [2, 3] [2, 3] 3 false w h (by unfold maxLen; omega) r3 (by unfold addF; rw [r3]; rfl)
  have t1 := fun B b w h => take_w B b 3 [2, 3] [3] 2 true w h (by unfold maxLen; omega) rfl rfl rfl
  have t2 := fun B b w h => take_w B b 4 [3] [] 3 true w h (by unfold maxLen; omega) rfl rfl rfl
  have t3 := fun B b w h => take_w B b 5 [] [] 0 false w h (by unfold maxLen; omega) rfl rfl rfl
  have A1 := Lib.hid a1
  have A2 := Lib.hid a2
  have A3 := Lib.hid a3
  have T1 := Lib.hid t1
  have T2 := Lib.hid t2
  have T3 := Lib.hid t3
  clear a1 a2 a3 t1 t2 t3 r1 r2 r3
  go_enter Try.func8, Try.ntmps8
  go_wp2_with (go_at_call 6; refine (new_b _).mono ?_; rintro e w1 ⟨rfl, hu1, hb1⟩)
  rw [st_none] at hu1
  refine (A1.out _ _ _ hu1).mono ?_
  rintro e w2 ⟨rfl, hu2, hb2⟩
  clear hu1
  go_wp2_with fail
  refine (A2.out _ _ _ hu2).mono ?_
  rintro e w3 ⟨rfl, hu3, hb3⟩
  clear hu2
  go_wp2_with fail
  refine (A3.out _ _ _ hu3).mono ?_
  rintro e w4 ⟨rfl, hu4, hb4⟩
  clear hu3
  go_wp2_with fail
  refine (T1.out _ _ _ hu4).mono ?_
  rintro e w5 ⟨rfl, hu5, hb5⟩
  clear hu4
  go_wp2_with fail
  refine (T2.out _ _ _ hu5).mono ?_
  rintro e w6 ⟨rfl, hu6, hb6⟩
  clear hu5
  go_wp2_with fail
  refine (T3.out _ _ _ hu6).mono ?_
  rintro e w7 ⟨rfl, hu7, hb7⟩
  clear hu6
  go_wp2_with fail
  go_ret
  exact ⟨rfl, (((((hb1.trans hb2).trans hb3).trans hb4).trans hb5).trans hb6).trans hb7⟩
end Go.Proofs.Ytbcofdecdknkeaa
