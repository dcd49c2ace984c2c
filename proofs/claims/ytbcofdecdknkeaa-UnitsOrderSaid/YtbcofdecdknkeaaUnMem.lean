/- units: how a Units lies in memory (a struct of one field, a map keyed by unit and host, slices of numbers), and what stays of it while other memory is written. -/
import Derived.Test.YtbcofdecdknkeaaUnNames
import Derived.Maps.OwnSet
import Derived.Maps.RangeWalk
import Derived.Maps.AppendAt
import Derived.DeepKeys4
namespace Go.Proofs.Ytbcofdecdknkeaa
open Go.RowKit Go.Deep Go.Maps

/-- from w to w' nothing has turned but blocks of F and new ones. -/
structure Mod (F : Nat → Prop) (w w' : World) : Prop where
  os : w'.os = w.os
  tape : w'.tape = w.tape
  output : w'.output = w.output
  size : w.heap.size ≤ w'.heap.size
  block : ∀ k, k < w.heap.size → ¬ F k → w'.heap[k]? = w.heap[k]?

namespace Mod
variable {F G : Nat → Prop} {a b c : World}
theorem refl (F : Nat → Prop) (w : World) : Mod F w w := ⟨rfl, rfl, rfl, Nat.le_refl _, fun _ _ _ => rfl⟩
theorem trans (h : Mod F a b) (k : Mod G b c) (hG : ∀ i, i < a.heap.size → G i → F i) : Mod F a c :=
  ⟨k.os.trans h.os, k.tape.trans h.tape, k.output.trans h.output, Nat.le_trans h.size k.size, fun i hi hf => (k.block i (Nat.lt_of_lt_of_le hi h.size) (fun hg => hf (hG i hi hg))).trans (h.block i hi hf)⟩
theorem mono (h : Mod F a b) (hF : ∀ i, i < a.heap.size → F i → G i) : Mod G a b := ⟨h.os, h.tape, h.output, h.size, fun i hi hg => h.block i hi (fun hf => hg (hF i hi hf))⟩
theorem of_below {B : Nat} (h : Below B a b) (hF : ∀ i, i < a.heap.size → B ≤ i → F i) : Mod F a b := ⟨h.os, h.tape, h.output, h.size, fun i hi hf => h.block i (by
  rcases Nat.lt_or_ge i B with h1 | h1
  · exact h1
  · exact absurd (hF i hi h1) hf)⟩
theorem of_new (h : Below a.heap.size a b) : Mod F a b := of_below h (fun i hi hB => by omega)
theorem of_grown {row : Option Nat} (h : a.grownBy b row) (hF : ∀ k, row = some k → F k) : Mod F a b := ⟨h.os, h.tape, h.output, h.size, fun i hi hf => h.block i hi (fun e => hf (hF i e.symm))⟩
theorem below {B : Nat} (h : Mod F a b) (hF : ∀ i, i < B → ¬ F i) (hB : B ≤ a.heap.size) : Below B a b := ⟨h.os, h.tape, h.output, h.size, fun i hi => h.block i (by omega) (hF i hi)⟩
theorem alloc (h : Mod F a b) (o : Obj) : Mod F a (b.alloc o) := h.trans (G := fun _ => False) (of_new ((Below.refl _ _).alloc (Nat.le_refl _) _)) (fun _ _ h => h.elim)
theorem drew (h : Mod F a b) : Mod F a b.drew := ⟨h.os, h.tape, h.output, h.size, h.block⟩
theorem drewN (h : Mod F a b) (n : Nat) : Mod F a (b.drewN n) := ⟨h.os, h.tape, h.output, h.size, h.block⟩
theorem setCell (h : Mod F a b) {p : Addr} (hp : p.block < a.heap.size → F p.block) (u : Value) : Mod F a (b.setCell p u) :=
  ⟨h.os, h.tape, h.output, by simpa using h.size, fun i hi hf => (Below.heap_setCell _ _ _ _ (fun e => hf (by rw [e]; exact hp (by omega)))).trans (h.block i hi hf)⟩
end Mod

/-! ### the map's key -/
theorem u_laidOut : laidOutB Try.prog = true := by kernel_rfl
theorem u_rowKey : (50 : TypeId) < Try.prog.types.size := of_decide_eq_true (by kernel_rfl)
theorem u_wide : (match Try.prog.underlying 50 with | some (.array _ _) | some (.struct _) => true | _ => false) = true := by rw [Try.underlying50]
theorem u_law : Keyed Try.prog 50 := Keyed.of_law (deep_law_laid u_laidOut (m := 2) (by omega) u_rowKey (by kernel_rfl) u_wide)
def keyV (lun : Int) (host : ByteArray) : Value := .agg #[.int .i64 lun, .string host]
def keyL (lun : Int) (host : ByteArray) : Lit := .string (keyBytes [.int .i64 lun, .string host.data.toList])
theorem u_keyType : Try.prog.keyType 50 = true := by kernel_rfl
theorem u_cellsKey : Try.prog.cellsOf 50 = 2 := by kernel_rfl
theorem u_cellsInt : Try.prog.cellsOf 3 = 1 := by kernel_rfl
theorem u_cellsStr : Try.prog.cellsOf 9 = 1 := by kernel_rfl
theorem u_formed (c0 c1 : Value) : (Value.agg #[c0, c1]).formed Try.prog 50 = true := by simp [Value.formed, Try.underlying50, u_cellsKey]
theorem u_lits (d : Nat) {lun : Int} {host : ByteArray} (hl : (Lit.int .i64 lun).wf = true) (hh : host.size ≤ maxLen) : Try.prog.keyLits (d + 2) 50 [.int .i64 lun, .string host] = some [.int .i64 lun, .string host.data.toList] := by
  simp [Program.keyLits, Try.underlying50, Try.underlying3, Try.underlying9, u_cellsKey, u_cellsInt, u_cellsStr, hl, hh]
theorem key_ok {lun : Int} {host : ByteArray} (hl : (Lit.int .i64 lun).wf = true) (hh : host.size ≤ maxLen) : keyOf Try.prog 50 (keyV lun host) = some (keyL lun host) := by
  unfold keyOf keyV keyL
  rw [Try.underlying50]
  simp only [u_keyType, u_formed, Bool.and_self, if_true]
  obtain ⟨d, hd⟩ : ∃ d, Try.prog.types.size + 1 = d + 2 := ⟨Try.prog.types.size - 1, by rw [Try.types_size]⟩
  rw [hd]
  show Option.map _ (Try.prog.keyLits (d + 2) _ [.int .i64 lun, .string host]) = _
  rw [u_lits d hl hh]
  rfl
theorem keyL_inj {a b : Int} {s t : ByteArray} (ha : (Lit.int .i64 a).wf = true) (hb : (Lit.int .i64 b).wf = true) (hs : s.size ≤ maxLen) (ht : t.size ≤ maxLen) (h : keyL a s = keyL b t) : a = b ∧ s = t := by
  have := u_law.inj (key_ok ha hs) (by rw [h]; exact key_ok hb ht)
  simpa [keyV] using this

/-! ### slices of numbers -/
/-- v is a slice that reads as xs, in a block of F. -/
def Ints (w : World) (F : Nat → Prop) (v : Value) (xs : List Int) : Prop :=
  (v = .slice none 0 0 ∧ xs = []) ∨ ∃ g o cap, v = .slice (some ⟨g, o, none⟩) xs.length cap ∧ 0 < xs.length ∧ xs.length ≤ cap ∧ F g ∧ g < w.heap.size ∧ ∀ i, i < xs.length → w.cell? ⟨g, o + i, none⟩ = some (.int .i64 (xs.getD i 0))
theorem Ints.nil (w : World) (F : Nat → Prop) : Ints w F (.slice none 0 0) [] := .inl ⟨rfl, rfl⟩
theorem Ints.slice {w : World} {F : Nat → Prop} {v : Value} {xs : List Int} (h : Ints w F v xs) : ∃ A cap, v = .slice A xs.length cap := by
  rcases h with ⟨rfl, rfl⟩ | ⟨g, o, cap, rfl, _⟩
  · exact ⟨none, 0, rfl⟩
  · exact ⟨_, _, rfl⟩
theorem Ints.stay {w w' : World} {F G : Nat → Prop} {v : Value} {xs : List Int} (h : Ints w F v xs) (hm : Mod G w w') (hd : ∀ k, F k → ¬ G k) : Ints w' F v xs := by
  rcases h with h | ⟨g, o, cap, rfl, h0, hc, hF, hg, hcell⟩
  · exact .inl h
  · exact .inr ⟨g, o, cap, rfl, h0, hc, hF, Nat.lt_of_lt_of_le hg hm.size, fun i hi => (World.cell?_of_block (w := w) (hm.block g hg (hd g hF))).trans (hcell i hi)⟩
theorem Ints.mono {w : World} {F G : Nat → Prop} {v : Value} {xs : List Int} (h : Ints w F v xs) (hd : ∀ k, k < w.heap.size → F k → G k) : Ints w G v xs := by
  rcases h with h | ⟨g, o, cap, rfl, h0, hc, hF, hg, hcell⟩
  · exact .inl h
  · exact .inr ⟨g, o, cap, rfl, h0, hc, hd g hg hF, hg, hcell⟩

/-! ### the struct and its map -/
def RV (v : Value) : Option (DataW Value × List MemPlace) := some (.held v, [])
theorem RV_inv {v : Value} {d : DataW Value} {ps : List MemPlace} (h : RV v = some (d, ps)) : d = .held v := by
  simp only [RV, Option.some.injEq, Prod.mk.injEq] at h
  exact h.1.symm
def nilS : Value := .slice none 0 0
theorem u_zero (w : World) : (zeroValue 34).run Try.prog w = .ok nilS w := by kernel_rfl

structure InMap (w : World) (F : Nat → Prop) (mb n : Nat) (D : DataW Value) (f : Int → ByteArray → List Int) : Prop where
  inF : F mb
  owns : w.ownsMap Try.prog 50 RV mb n D
  at_ : ∀ lun host, (Lit.int .i64 lun).wf = true → host.size ≤ maxLen → ∃ v, D.atKey (keyL lun host) (.held nilS) = .held v ∧ Ints w F v (f lun host) ∧ Maps.has D (keyL lun host) = decide (f lun host ≠ [])

def MapAt (w : World) (F : Nat → Prop) (m : Option Nat) (n : Nat) (f : Int → ByteArray → List Int) : Prop :=
  (m = none ∧ f = fun _ _ => []) ∨ ∃ mb D, m = some mb ∧ InMap w F mb n D f

structure Fair (f : Int → ByteArray → List Int) : Prop where
  short : ∀ l h, (f l h).length ≤ 8
  good : ∀ l h, f l h ≠ [] → 0 ≤ l ∧ l < 8 ∧ nameB h = true

structure UnitsAt (w : World) (b n : Nat) (f : Int → ByteArray → List Int) (F : Nat → Prop) (m : Option Nat) : Prop where
  blk : w.heap[b]? = some (.cells #[.map m] 48 (0, 0))
  inF : F b
  map : MapAt w F m n f
  fair : Fair f

theorem own_stay {w w' : World} {mb n : Nat} {D : DataW Value} (h : w.ownsMap Try.prog 50 RV mb n D) (hx : w'.heap[mb]? = w.heap[mb]?) : w'.ownsMap Try.prog 50 RV mb n D := by
  obtain ⟨es, clock, hb, r⟩ := h
  exact ⟨es, clock, hx.trans hb, r⟩

theorem InMap.stay {w w' : World} {F G : Nat → Prop} {mb n : Nat} {D : DataW Value} {f : Int → ByteArray → List Int} (h : InMap w F mb n D f) (hm : Mod G w w') (hd : ∀ k, F k → ¬ G k) : InMap w' F mb n D f :=
  ⟨h.inF, own_stay h.owns (hm.block mb h.owns.lt (hd mb h.inF)), fun lun host h1 h2 => by
    obtain ⟨v, h3, h4, h5⟩ := h.at_ lun host h1 h2
    exact ⟨v, h3, h4.stay hm hd, h5⟩⟩
theorem MapAt.stay {w w' : World} {F G : Nat → Prop} {m : Option Nat} {n : Nat} {f : Int → ByteArray → List Int} (h : MapAt w F m n f) (hm : Mod G w w') (hd : ∀ k, F k → ¬ G k) : MapAt w' F m n f := by
  rcases h with h | ⟨mb, D, rfl, h⟩
  · exact .inl h
  · exact .inr ⟨mb, D, rfl, h.stay hm hd⟩
theorem blk_lt' {w : World} {g : Nat} {o : Obj} (h : w.heap[g]? = some o) : g < w.heap.size := (Array.getElem?_eq_some_iff.1 h).1
theorem UnitsAt.stay {w w' : World} {F G : Nat → Prop} {b n : Nat} {m : Option Nat} {f : Int → ByteArray → List Int} (h : UnitsAt w b n f F m) (hm : Mod G w w') (hd : ∀ k, F k → ¬ G k) : UnitsAt w' b n f F m :=
  ⟨(hm.block b (blk_lt' h.blk) (hd b h.inF)).trans h.blk, h.inF, h.map.stay hm hd, h.fair⟩
theorem UnitsAt.mono {w : World} {F G : Nat → Prop} {b n : Nat} {m : Option Nat} {f : Int → ByteArray → List Int} (h : UnitsAt w b n f F m) (hd : ∀ k, k < w.heap.size → F k → G k) : UnitsAt w b n f G m :=
  ⟨h.blk, hd b (blk_lt' h.blk) h.inF, by
    rcases h.map with h1 | ⟨mb, D, rfl, h1⟩
    · exact .inl h1
    · exact .inr ⟨mb, D, rfl, hd mb h1.owns.lt h1.inF, h1.owns, fun lun host h2 h3 => by
        obtain ⟨v, h4, h5, h6⟩ := h1.at_ lun host h2 h3
        exact ⟨v, h4, h5.mono hd, h6⟩⟩, h.fair⟩

/-- what waits at a key: a look-up, in whatever world in which the map's block is as it was. -/
theorem MapAt.look {w : World} {F : Nat → Prop} {m : Option Nat} {n : Nat} {f : Int → ByteArray → List Int} (h : MapAt w F m n f) {lun : Int} {host : ByteArray} (hl : (Lit.int .i64 lun).wf = true) (hh : host.size ≤ maxLen) :
    ∃ v, Ints w F v (f lun host) ∧ ∀ wx, (∀ mb, m = some mb → wx.heap[mb]? = w.heap[mb]?) → (Instr.lookup 46 (.map m) (keyV lun host) false).run Try.prog wx = .ok v wx := by
  rcases h with ⟨rfl, rfl⟩ | ⟨mb, D, rfl, h⟩
  · exact ⟨nilS, Ints.nil _ _, fun wx _ => look_nil false u_law Try.underlying46 (u_zero wx) (key_ok hl hh)⟩
  · obtain ⟨v, h1, h2, _⟩ := h.at_ lun host hl hh
    refine ⟨v, h2, fun wx hx => ?_⟩
    obtain ⟨v', ps, hr, hv⟩ := (own_stay h.owns (hx mb rfl)).lookup u_law Try.underlying46 (u_zero wx) (zd := .held nilS) (zp := []) rfl (key_ok hl hh)
    have := RV_inv hv
    rw [h1] at this
    obtain rfl : v = v' := by simpa using this
    exact hr

/-! ### what a store, a delete, a new map leave -/
def upd (f : Int → ByteArray → List Int) (lun : Int) (host : ByteArray) (l : List Int) : Int → ByteArray → List Int := fun a b => if a = lun ∧ b = host then l else f a b
theorem upd_same (f : Int → ByteArray → List Int) (lun : Int) (host : ByteArray) (l : List Int) : upd f lun host l lun host = l := by simp [upd]
theorem upd_other (f : Int → ByteArray → List Int) {lun a : Int} {host b : ByteArray} (l : List Int) (h : ¬ (a = lun ∧ b = host)) : upd f lun host l a b = f a b := by simp only [upd]; rw [if_neg h]
theorem Fair.upd {f : Int → ByteArray → List Int} (h : Fair f) {lun : Int} {host : ByteArray} {l : List Int} (h1 : l.length ≤ 8) (h2 : l ≠ [] → 0 ≤ lun ∧ lun < 8 ∧ nameB host = true) : Fair (upd f lun host l) := by
  refine ⟨fun a b => ?_, fun a b => ?_⟩ <;> unfold Ytbcofdecdknkeaa.upd <;> split
  · exact h1
  · exact h.short a b
  · rename_i e; obtain ⟨rfl, rfl⟩ := e; exact h2
  · exact h.good a b

theorem Ints.keep {w w' : World} {F : Nat → Prop} {v : Value} {xs : List Int} (h : Ints w F v xs) (hs : w.heap.size ≤ w'.heap.size) (hk : ∀ a x, w.cell? a = some (.int .i64 x) → w'.cell? a = some (.int .i64 x)) : Ints w' F v xs := by
  rcases h with h | ⟨g, o, cap, rfl, h0, hc, hF, hg, hcell⟩
  · exact .inl h
  · exact .inr ⟨g, o, cap, rfl, h0, hc, hF, Nat.lt_of_lt_of_le hg hs, fun i hi => hk _ _ (hcell i hi)⟩
theorem cell_not_map {w : World} {mb : Nat} {es : Array MapEntry} {clock : Nat} (h : w.heap[mb]? = some (.map es clock)) {a : Addr} {v : Value} (hc : w.cell? a = some v) : a.block ≠ mb := by
  rintro rfl
  simp [World.cell?, h] at hc
theorem keep_map {w w' : World} {mb n : Nat} {D : DataW Value} (h : w.ownsMap Try.prog 50 RV mb n D) (hm : Mod (fun k => k = mb) w w') {a : Addr} {v : Value} (hc : w.cell? a = some v) : w'.cell? a = some v := by
  obtain ⟨es, clock, hb, _⟩ := h
  exact (World.cell?_of_block (w := w) (hm.block a.block (World.block_lt_of_cell? w a hc) (cell_not_map hb hc))).trans hc
theorem keep_units {w w' : World} {b : Nat} {m : Option Nat} {t : TypeId} (h : w.heap[b]? = some (.cells #[.map m] t (0, 0))) (hm : Mod (fun k => k = b) w w') {a : Addr} {x : Int} (hc : w.cell? a = some (.int .i64 x)) : w'.cell? a = some (.int .i64 x) := by
  refine (World.cell?_of_block (w := w) (hm.block a.block (World.block_lt_of_cell? w a hc) ?_)).trans hc
  rintro rfl
  simp only [World.cell?, h] at hc
  split at hc
  · cases hc
  · rcases hn : a.off with _ | k
    · rw [hn] at hc; simp at hc
    · rw [hn] at hc; simp at hc

theorem InMap.del {w w' : World} {F : Nat → Prop} {mb n : Nat} {D : DataW Value} {f : Int → ByteArray → List Int} (h : InMap w F mb n D f) {lun : Int} {host : ByteArray} (hl : (Lit.int .i64 lun).wf = true) (hh : host.size ≤ maxLen)
    (ho : w'.ownsMap Try.prog 50 RV mb n (D.del (keyL lun host))) (hm : Mod (fun k => k = mb) w w') : InMap w' F mb n (D.del (keyL lun host)) (upd f lun host []) := by
  refine ⟨h.inF, ho, fun a b ha hb => ?_⟩
  by_cases e : a = lun ∧ b = host
  · obtain ⟨rfl, rfl⟩ := e
    exact ⟨nilS, atKey_del_same _, by rw [upd_same]; exact Ints.nil _ _, by rw [upd_same, has_del_same]; simp⟩
  · have hne : keyL a b ≠ keyL lun host := fun h' => e (keyL_inj ha hl hb hh h')
    obtain ⟨v, h1, h2, h3⟩ := h.at_ a b ha hb
    exact ⟨v, by rw [atKey_del_other hne]; exact h1, by rw [upd_other _ _ e]; exact h2.keep hm.size (fun _ _ hc => keep_map h.owns hm hc), by rw [upd_other _ _ e, has_del_other hne]; exact h3⟩

theorem InMap.put {w w' : World} {F F' : Nat → Prop} {mb n n' : Nat} {D : DataW Value} {f : Int → ByteArray → List Int} (h : InMap w F mb n D f) {lun : Int} {host : ByteArray} (hl : (Lit.int .i64 lun).wf = true) (hh : host.size ≤ maxLen) {v : Value} {l : List Int}
    (ho : w'.ownsMap Try.prog 50 RV mb n' (D.put (keyL lun host) (.held v))) (hm : Mod (fun k => k = mb) w w') (hF : ∀ k, k < w.heap.size → F k → F' k) (hv : Ints w' F' v l) (hne : l ≠ []) : InMap w' F' mb n' (D.put (keyL lun host) (.held v)) (upd f lun host l) := by
  have hD : IsMap D := h.owns.isMap
  refine ⟨hF mb h.owns.lt h.inF, ho, fun a b ha hb => ?_⟩
  by_cases e : a = lun ∧ b = host
  · obtain ⟨rfl, rfl⟩ := e
    exact ⟨v, atKey_put_same hD (u_law.key (key_ok hl hh)) _ _, by rw [upd_same]; exact hv, by rw [upd_same, has_put_same hD (u_law.key (key_ok hl hh))]; simp [hne]⟩
  · have hne' : keyL a b ≠ keyL lun host := fun h' => e (keyL_inj ha hl hb hh h')
    obtain ⟨v', h1, h2, h3⟩ := h.at_ a b ha hb
    exact ⟨v', by rw [atKey_put_other hne']; exact h1, by rw [upd_other _ _ e]; exact (h2.mono hF).keep hm.size (fun _ _ hc => keep_map h.owns hm hc), by rw [upd_other _ _ e, has_put_other hne']; exact h3⟩

theorem InMap.mono {w : World} {F G : Nat → Prop} {mb n : Nat} {D : DataW Value} {f : Int → ByteArray → List Int} (h : InMap w F mb n D f) (hd : ∀ k, k < w.heap.size → F k → G k) : InMap w G mb n D f :=
  ⟨hd mb h.owns.lt h.inF, h.owns, fun lun host h2 h3 => by
    obtain ⟨v, h4, h5, h6⟩ := h.at_ lun host h2 h3
    exact ⟨v, h4, h5.mono hd, h6⟩⟩

/-- what a call on a Units leaves: the Units anew, nothing else turned. -/
def Left (w : World) (b n : Nat) (F : Nat → Prop) (f : Int → ByteArray → List Int) (v : Value) (e : Ending) (w' : World) : Prop :=
  e = .returned v ∧ (∃ m, UnitsAt w' b n f (fun k => F k ∨ (w.heap.size ≤ k ∧ k < w'.heap.size)) m) ∧ Mod F w w'

theorem left_map {w w' : World} {b n n' mb : Nat} {F : Nat → Prop} {f f' : Int → ByteArray → List Int} {D : DataW Value} (h : UnitsAt w b n f F (some mb)) (hin : InMap w' (fun k => F k ∨ (w.heap.size ≤ k ∧ k < w'.heap.size)) mb n' D f') (hM : Mod (fun k => k = mb) w w') (hF : F mb) (hne : mb ≠ b) (hf : Fair f') (v : Value) : Left w b n' F f' v (.returned v) w' :=
  ⟨rfl, ⟨some mb, (hM.block b (blk_lt' h.blk) (fun e => hne e.symm)).trans h.blk, .inl h.inF, .inr ⟨mb, D, rfl, hin⟩, hf⟩, hM.mono (fun _ _ e => e ▸ hF)⟩
theorem mb_ne {w : World} {b n mb : Nat} {F : Nat → Prop} {f : Int → ByteArray → List Int} {D : DataW Value} (h : UnitsAt w b n f F (some mb)) (hin : InMap w F mb n D f) : mb ≠ b := by
  rintro rfl
  obtain ⟨es, clock, hb, _⟩ := hin.owns
  rw [h.blk] at hb; cases hb
theorem UnitsAt.made {w : World} {b n mb : Nat} {F : Nat → Prop} {f : Int → ByteArray → List Int} (h : UnitsAt w b n f F (some mb)) : ∃ D, InMap w F mb n D f := by
  rcases h.map with ⟨h1, _⟩ | ⟨mb', D, h1, h2⟩
  · cases h1
  · cases h1; exact ⟨D, h2⟩
theorem UnitsAt.some_ {w : World} {b n : Nat} {F : Nat → Prop} {m : Option Nat} {f : Int → ByteArray → List Int} (h : UnitsAt w b n f F m) {lun : Int} {host : ByteArray} (h0 : f lun host ≠ []) : ∃ mb, m = some mb := by
  rcases h.map with ⟨_, hf⟩ | ⟨mb, _, h1, _⟩
  · rw [hf] at h0; exact absurd rfl h0
  · exact ⟨mb, h1⟩

theorem UnitsAt.more {w : World} {b n n' : Nat} {F : Nat → Prop} {m : Option Nat} {f : Int → ByteArray → List Int} (h : UnitsAt w b n f F m) (hn : n ≤ n') : UnitsAt w b n' f F m :=
  ⟨h.blk, h.inF, by
    rcases h.map with h1 | ⟨mb, D, rfl, h1⟩
    · exact .inl h1
    · exact .inr ⟨mb, D, rfl, h1.inF, h1.owns.mono hn, h1.at_⟩, h.fair⟩
theorem left_same {w : World} {b n n' : Nat} {F : Nat → Prop} {m : Option Nat} {f : Int → ByteArray → List Int} (h : UnitsAt w b n f F m) (hn : n ≤ n') (v : Value) : Left w b n' F f v (.returned v) w :=
  ⟨rfl, ⟨m, (h.more hn).mono (fun _ _ h => .inl h)⟩, Mod.refl _ _⟩
theorem upd_id (f : Int → ByteArray → List Int) (lun : Int) (host : ByteArray) (l : List Int) (h : f lun host = l) : upd f lun host l = f := by
  funext a b
  unfold upd
  split
  · rename_i e; obtain ⟨rfl, rfl⟩ := e; exact h.symm
  · rfl
end Go.Proofs.Ytbcofdecdknkeaa
