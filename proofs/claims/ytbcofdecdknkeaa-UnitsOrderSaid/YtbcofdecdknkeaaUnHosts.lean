/- units: Hosts: who waits at a unit, in the order of texts: the walk, over the library's sort. -/
import Derived.Test.YtbcofdecdknkeaaUnB
import Derived.Sort.OwnSorted
import Derived.Sort.KeysCollected
import Derived.Laws.IdiomRangeMap
import Derived.Maps.RangeWalk
import Derived.Deep.AppendLies
namespace Go.Proofs.Ytbcofdecdknkeaa
open Go.RowKit Go.Deep Go.Maps Go.Sort

theorem s_info : (Try.prog.info? 9).map (fun i => (i.zero, i.size, i.bytes)) = some (some (.string ⟨#[]⟩), 1, 16) := by kernel_rfl
def SortS : Prop := ∀ (g cap : Nat) (ss : List (List UInt8)) (w : World), Holds encStr w g 0 ss.toArray → g < w.heap.size → ss.length < 4611686018427387904 →
  Calls Try.prog 25 #[.slice (some ⟨g, 0, none⟩) ss.length cap] w fun e w' => e = .returned (.tuple #[]) ∧ ∃ n os, w' = grow (putRow encStr (Sort.ahead w n) g 0 (ss.mergeSort leB).toArray) os
def SortNil : Prop := ∀ w : World, Calls Try.prog 25 #[.slice none 0 0] w fun e w' => e = .returned (.tuple #[]) ∧ w' = w

/-- what reads as a key is a unit and a host. -/
theorem key_inv {key : Value} {kl : Lit} (h : keyOf Try.prog 50 key = some kl) : ∃ p : Int × ByteArray, key = keyV p.1 p.2 ∧ (Lit.int .i64 p.1).wf = true ∧ p.2.size ≤ maxLen ∧ kl = keyL p.1 p.2 := by
  have h0 := h
  unfold keyOf at h
  rw [Try.underlying50] at h
  simp only at h
  split at h
  · rename_i hc
    have hf := (Bool.and_eq_true_iff.1 hc).2
    obtain ⟨cs, rfl, hsz⟩ : ∃ cs : Array Value, key = .agg cs ∧ cs.size = 2 := by
      simp only [Value.formed, Try.underlying50] at hf
      cases key <;> simp_all [u_cellsKey]
    obtain ⟨c0, c1, rfl⟩ : ∃ c0 c1, cs = #[c0, c1] := by
      obtain ⟨l⟩ := cs
      match l, hsz with
      | [a, b], _ => exact ⟨a, b, rfl⟩
    obtain ⟨d, hd⟩ : ∃ d, Try.prog.types.size + 1 = d + 2 := ⟨Try.prog.types.size - 1, by rw [Try.types_size]⟩
    rw [hd] at h
    simp only [Value.cells] at h
    obtain ⟨ls, hls, _⟩ := Option.map_eq_some_iff.1 h
    have e0 : ∃ n, c0 = .int .i64 n ∧ (Lit.int .i64 n).wf = true := by
      simp [Program.keyLits, Try.underlying50, Try.underlying3, Try.underlying9, u_cellsKey, u_cellsInt, u_cellsStr] at hls
      cases c0 <;> simp at hls
      rename_i k n
      by_cases hk : k = IntKind.i64 ∧ (Lit.int IntKind.i64 n).wf = true
      · exact ⟨n, by rw [hk.1], hk.2⟩
      · rw [if_neg hk] at hls
        cases hls
    obtain ⟨n, rfl, hn⟩ := e0
    have e1 : ∃ s, c1 = .string s ∧ s.size ≤ maxLen := by
      simp [Program.keyLits, Try.underlying50, Try.underlying3, Try.underlying9, u_cellsKey, u_cellsInt, u_cellsStr, hn] at hls
      cases c1 <;> simp at hls
      rename_i s
      by_cases hs : s.size ≤ maxLen
      · exact ⟨s, rfl, hs⟩
      · simp [hs] at hls
    obtain ⟨s, rfl, hs⟩ := e1
    refine ⟨(n, s), rfl, hn, hs, ?_⟩
    have := key_ok hn hs
    unfold keyV at this
    rw [this] at h0
    exact (Option.some.inj h0).symm
  · cases h

/-- the hosts met so far. -/
structure Coll (f : Int → ByteArray → List Int) (lun : Int) (left : Lit → Bool) (ss : List (List UInt8)) : Prop where
  nodup : ss.Nodup
  le : ∀ x ∈ ss, x.length ≤ maxLen
  mem : ∀ host : ByteArray, host.size ≤ maxLen → (host.data.toList ∈ ss ↔ f lun host ≠ [] ∧ left (keyL lun host) = false)
theorem same_key_self (a : Int) (s : ByteArray) : (keyL a s).sameKey (keyL a s) = true := by simp [keyL, Lit.sameKey]
theorem same_key_ne {a b : Int} {s t : ByteArray} (h : keyL a s ≠ keyL b t) : (keyL a s).sameKey (keyL b t) = false := by
  simp only [keyL, Lit.sameKey, ne_eq, Lit.string.injEq] at h ⊢
  simpa using h
theorem list_inj {a b : ByteArray} (h : a.data.toList = b.data.toList) : a = b := by
  apply ByteArray.ext
  exact Array.toList_inj.1 h
theorem Coll.start {f : Int → ByteArray → List Int} {lun : Int} {D : DataW Value} (h : ∀ host : ByteArray, host.size ≤ maxLen → has D (keyL lun host) = decide (f lun host ≠ [])) : Coll f lun (has D) [] := by
  refine ⟨List.nodup_nil, (fun x hx => by cases hx), fun host hh => ?_⟩
  rw [h host hh]
  simp
theorem Coll.skip {f : Int → ByteArray → List Int} {lun : Int} {left : Lit → Bool} {ss : List (List UInt8)} (h : Coll f lun left ss) {l : Int} {s : ByteArray} (hl : (Lit.int .i64 l).wf = true) (hlun : (Lit.int .i64 lun).wf = true) (hs : s.size ≤ maxLen) (hne : l ≠ lun) : Coll f lun (fun z => left z && !z.sameKey (keyL l s)) ss := by
  refine ⟨h.nodup, h.le, fun host hh => ?_⟩
  have : (keyL lun host).sameKey (keyL l s) = false := same_key_ne fun e => hne (keyL_inj hlun hl hh hs e).1.symm
  rw [h.mem host hh, this]
  simp
theorem Coll.step {f : Int → ByteArray → List Int} {lun : Int} {left : Lit → Bool} {ss : List (List UInt8)} (h : Coll f lun left ss) {s : ByteArray} (hlun : (Lit.int .i64 lun).wf = true) (hs : s.size ≤ maxLen) (hleft : left (keyL lun s) = true) (hf : f lun s ≠ []) : Coll f lun (fun z => left z && !z.sameKey (keyL lun s)) (ss ++ [s.data.toList]) := by
  have hnew : s.data.toList ∉ ss := fun hx => by
    have := ((h.mem s hs).1 hx).2
    rw [hleft] at this
    cases this
  refine ⟨List.nodup_append.2 ⟨h.nodup, by simp, fun a ha b hb => by simp at hb; subst hb; exact fun e => hnew (e ▸ ha)⟩, fun x hx => ?_, fun host hh => ?_⟩
  · rcases List.mem_append.1 hx with h1 | h1
    · exact h.le x h1
    · simp at h1; subst h1; rw [Array.length_toList]; exact hs
  · by_cases e : host = s
    · subst e
      rw [same_key_self]
      simp [hf]
    · have hk : (keyL lun host).sameKey (keyL lun s) = false := same_key_ne fun e2 => e (keyL_inj hlun hlun hh hs e2).2
      rw [hk, List.mem_append, h.mem host hh]
      simp
      intro e2
      exact absurd (list_inj (congrArg Array.toList e2)) e

/-- who waits at a unit, as Hosts tells it. -/
structure HostsOf (f : Int → ByteArray → List Int) (lun : Int) (ss : List (List UInt8)) : Prop where
  sorted : ss.Pairwise (fun a b => a ≤ b)
  nodup : ss.Nodup
  le : ∀ x ∈ ss, x.length ≤ maxLen
  mem : ∀ host : ByteArray, host.size ≤ maxLen → (host.data.toList ∈ ss ↔ f lun host ≠ [])
theorem Coll.done {f : Int → ByteArray → List Int} {lun : Int} {left : Lit → Bool} {ss : List (List UInt8)} (h : Coll f lun left ss) (h0 : ∀ kl, left kl = false) : HostsOf f lun (ss.mergeSort leB) := by
  have tr : ∀ a b c : List UInt8, leB a b = true → leB b c = true → leB a c = true := fun a b c h1 h2 => by simp only [leB, decide_eq_true_eq] at *; exact List.le_trans h1 h2
  have to : ∀ a b : List UInt8, (leB a b || leB b a) = true := fun a b => by simp only [leB, Bool.or_eq_true, decide_eq_true_eq]; exact List.le_total a b
  have hp := List.mergeSort_perm ss leB
  refine ⟨(List.pairwise_mergeSort tr to ss).imp (fun h => by simpa [leB] using h), hp.nodup_iff.2 h.nodup, fun x hx => h.le x (hp.mem_iff.1 hx), fun host hh => ?_⟩
  rw [hp.mem_iff, h.mem host hh, h0]
  simp
theorem ranges_cnt {w : World} {b r n : Nat} {D : DataW Value} {left : Lit → Bool} {cnt : Nat} (h : w.ranges Try.prog 50 RV b r n D left cnt) : cnt ≤ n := by
  obtain ⟨es, _, _, seen, _, _, _, hn, _, _, _, hc, _⟩ := h
  have : (leftOf es seen).size ≤ es.size := Array.size_filter_le
  omega

set_option maxHeartbeats 1000000 in
set_option maxRecDepth 100000 in
theorem hosts_nil (hsort : SortNil) (b n : Nat) (f : Int → ByteArray → List Int) (F : Nat → Prop) (lun : Int) (w : World) (h : UnitsAt w b n f F none) :
    Calls Try.prog 14 #[.pointer (some ⟨b, 0, none⟩), .int .i64 lun] w fun e w' => e = .returned (.slice none 0 0) ∧ Below w.heap.size w w' := by
  have hc : w.cell? ⟨b, 0, none⟩ = some (.map none) := cell_of_row w b 0 _ _ _ h.blk
  have hrg := run_range_nilMap (P := Try.prog) w 46 50 34 Try.underlying46
  have hnx : ∀ ty, (Instr.next (.pointer (some ⟨w.heap.size, 0, none⟩)) false ty).run Try.prog (w.alloc (.mapIter none 0 #[] 0)) = _ := fun ty => run_next_nilMap w ty 0 0 #[]
  have Hs := Lib.hid hsort
  clear hsort h
  go_enter Try.func14, Try.ntmps14
  go_wp2_with fail
  refine wp_loop_rounds 1 ?_
  rw [rounds_succ]
  go_wp2_with (first
    | (go_at_call 25; refine (Hs.out _).mono ?_; rintro e w1 ⟨rfl, rfl⟩)
    | fail)
  go_ret
  exact ⟨rfl, (Below.refl _ _).alloc (Nat.le_refl _) _⟩

set_option maxHeartbeats 2000000 in
set_option maxRecDepth 100000 in
theorem hosts_some (hsort : SortS) (hsn : SortNil) (b n mb : Nat) (f : Int → ByteArray → List Int) (F : Nat → Prop) (lun : Int) (w : World) (h : UnitsAt w b n f F (some mb)) (hn : n ≤ 100000) (hl : (Lit.int .i64 lun).wf = true) :
    Calls Try.prog 14 #[.pointer (some ⟨b, 0, none⟩), .int .i64 lun] w fun e w' => ∃ v ss, e = .returned v ∧ HostsOf f lun ss ∧ w'.ownsRow w.heap.size 9 1 v ss.length (ss.map encStr) ∧ Below w.heap.size w w' := by
  obtain ⟨i0, hi, hz0, hz1, hz2⟩ := info_parts s_info
  have hc : w.cell? ⟨b, 0, none⟩ = some (.map (some mb)) := cell_of_row w b 0 _ _ _ h.blk
  obtain ⟨D, him⟩ := h.made
  have hbl := him.owns.lt
  have Hbl := Lib.hid hbl
  have Him := Lib.hid him
  have Hs := Lib.hid hsort
  have Hsn := Lib.hid hsn
  have Hl := Lib.hid hl
  clear hsort hsn h him hl hbl
  go_enter Try.func14, Try.ntmps14
  go_wp2_with (first
    | (at_range; refine wpList_range_own _ rfl _ 46 rfl 50 34 u_law Try.underlying46 RV mb n _ rfl Him.out.owns ?_; intro w0 hrg0 hg0 hs0)
    | fail)
  go_frame
  have Hrg0 := Lib.hid hrg0
  have Hg0 := Lib.hid hg0
  clear hrg0 hg0 hs0
  go_loopw [5] (fun v wr => ∃ (left : Lit → Bool) (cnt : Nat) (ss : List (List UInt8)), wr.ranges Try.prog 50 RV mb w.heap.size n D left cnt ∧ ss.length + cnt ≤ n ∧ wr.ownsRow w.heap.size 9 1 v ss.length (ss.map encStr) ∧ Coll f lun left ss ∧ Below w.heap.size w wr)
    (fun _ wr => wr.rangeLeft mb w.heap.size)
  case atStart =>
    exact ⟨_, _, [], Hrg0.out, by simpa using ranges_cnt Hrg0.out, World.ownsRow_nil _ _ _ _, Coll.start (fun host hh => by obtain ⟨_, _, _, h3⟩ := Him.out.at_ lun host Hl.out hh; exact h3), (Below.refl _ _).grown Hg0.out (Nat.le_refl _) (fun j hj => by cases hj)⟩
  case round =>
    obtain ⟨left, cnt, ss, hrg, hcs, hrow, hC, hnx⟩ := hrel
    have Hb := Lib.hid hnx
    have HC := Lib.hid hC
    clear hnx hC
    go_wp2_with (first
      | (at_next; refine wpList_next_ranges _ rfl _ rfl 50 u_law RV (fun p : Int × ByteArray => keyV p.1 p.2) (fun v : Value => v) (fun key kl hk => by obtain ⟨p, hp, _⟩ := key_inv hk; exact ⟨p, hp⟩) (fun v y hv => ⟨v, rfl⟩) mb w.heap.size n _ _ _ rfl hrg ?_ ?_)
      | fail)
    · intro hc0 hl0
      have Hd := Lib.hid (HC.out.done hl0)
      clear hl0
      rcases hrow.2 with ⟨rfl, hz⟩ | ⟨g, cap, cur, rfl, hbase, hb, h1, h2, h3, h4⟩
      · have hss : ss = [] := List.eq_nil_of_length_eq_zero hz
        subst hss
        go_wp2_with (first
          | (go_at_call 25; refine (Hsn.out _).mono ?_; rintro e w1 ⟨rfl, rfl⟩)
          | fail)
        go_ret
        exact ⟨.slice none 0 0, _, rfl, Hd.out, by rw [show ([] : List (List UInt8)).mergeSort leB = [] by simp]; exact World.ownsRow_nil _ _ _ _, Hb.out⟩
      · have hH : Holds encStr wr g 0 ss.toArray := holds_of_block hb (by simpa using h4)
        have hgl : g < wr.heap.size := (Array.getElem?_eq_some_iff.1 hb).1
        have hcall := Hs.out g cap ss wr hH hgl (by omega)
        have Hcall := Lib.hid hcall
        clear hcall hH
        go_wp2_with (first
          | (go_at_call 25; refine Hcall.out.mono ?_; rintro e w1 ⟨rfl, nn, os, rfl⟩)
          | fail)
        go_ret
        have hlen : (ss.mergeSort leB).length = ss.length := by simp
        refine ⟨.slice (some ⟨g, 0, none⟩) ss.length cap, _, rfl, Hd.out, ?_, Hb.out.grown (grownBy_sorted _) Hb.out.size (fun j hj => by cases hj; exact hbase)⟩
        rw [hlen]
        exact ownsRow_sorted (by simp) hbase hb h1 h2 h3
    · intro l s c kl yd yp w2 cnt2 hkey hlk hv hat hrg2 hlt hg2 hs2 hen
      obtain ⟨p', hp', hwf, hsz, rfl⟩ := key_inv hkey
      obtain ⟨rfl, rfl⟩ : l = p'.1 ∧ s = p'.2 := by simpa [keyV] using hp'
      obtain ⟨l, s⟩ := p'
      simp only at hwf hsz hlk hat hrg2 hen hkey hp' ⊢
      have hhas : has D (keyL l s) = true := has_true_of_atKey hat
      have hfne : f l s ≠ [] := by
        obtain ⟨_, _, _, h3⟩ := Him.out.at_ l s hwf hsz
        rw [h3] at hhas
        exact of_decide_eq_true hhas
      have hrow2 := hrow.kept hg2 (Or.inr (row_ne_iter hrow hrg).symm)
      have Hg2 := Lib.hid hg2
      have Hrg2 := Lib.hid hrg2
      have Hrow2 := Lib.hid hrow2
      have Hlk := Lib.hid hlk
      have Hfne := Lib.hid hfne
      have Hwf := Lib.hid hwf
      have Hsz := Lib.hid hsz
      have Hrg := Lib.hid hrg
      have Hrow := Lib.hid hrow
      unfold keyV at hen ⊢
      clear hs2 hp' hkey hv hat hhas hg2 hrg2 hrow2 hlk hfne hwf hsz hrg hrow
      have hcw : (w2.alloc (.cells #[.int .i64 l, .string s] 50)).heap.size = w2.heap.size + 1 := by simp
      have Hcw := Lib.hid hcw
      clear hcw
      have hss9 : ss.length + 1 ≤ 100001 := by omega
      by_cases hll : l = lun
      · subst hll
        go_wp2_with (first
          | (at_builtin; refine wpList_append_own _ rfl (.tmp 22) (.tmp 25) 37 rfl w.heap.size 9 i0 (.string ⟨#[]⟩) 1 16 Try.underlying37 hi hz0 hz1 hz2 rfl (by decide) _ _ _ rfl ((Hrow2.out.alloc _).alloc _) ⟨w2.heap.size + 1, 0, none⟩ 1 1 [.string s] rfl rfl (World.news_of_block (cs := #[.string s]) (t := 9) (fr := (0, 0)) (heap_alloc_new2 w2 _ _)) (by simp [Value.oneCell']) (by unfold maxLen; omega) (by omega) (by have := Hb.out.size; have := Hg2.out.size; simp; omega) ?_; intro v' w3 hown' hg3 hnil3; go_frame)
          | fail)
        have hrg3 := ((Hrg2.out.alloc _).alloc _).kept hg3 (row_ne_low Hrow.out Hbl.out) (row_ne_iter Hrow.out Hrg.out)
        refine ⟨⟨_, cnt2, ss ++ [s.data.toList], hrg3, by simp; omega, by simpa [encStr] using hown', HC.out.step Hl.out Hsz.out Hlk.out Hfne.out, ?_⟩, ?_⟩
        · exact (((Hb.out.grown Hg2.out Hb.out.size (fun j hj => by cases hj; exact Nat.le_refl _)).alloc (by have := Hb.out.size; have := Hg2.out.size; omega) _).alloc (by have := Hb.out.size; have := Hg2.out.size; simp; omega) _).grown hg3 (by have := Hb.out.size; have := Hg2.out.size; simp; omega) (fun j hj => (Hrow2.out.lt j hj).1)
        · rw [hrg3.left_eq, Hrg.out.left_eq]; exact hlt
      · have hlf : (l == lun) = false := by simpa using hll
        have hne : Hid (l ≠ lun) := hll
        clear hll
        go_wp2_with fail
        go_roundw
        case rel =>
          exact ⟨_, cnt2, ss, Hrg2.out.alloc _, by omega, Hrow2.out.alloc _, HC.out.skip Hwf.out Hl.out Hsz.out hne.out, (Hb.out.grown Hg2.out Hb.out.size (fun j hj => by cases hj; exact Nat.le_refl _)).alloc (by have := Hb.out.size; have := Hg2.out.size; omega) _⟩
        case measure => rw [(Hrg2.out.alloc _).left_eq, Hrg.out.left_eq]; exact hlt
theorem hosts_b (hsort : SortS) (hsn : SortNil) (B b n : Nat) (f : Int → ByteArray → List Int) (lun : Int) (w : World) (h : UnB B w b n f) (hn : n ≤ 100000) (hl : (Lit.int .i64 lun).wf = true) :
    Calls Try.prog 14 #[.pointer (some ⟨b, 0, none⟩), .int .i64 lun] w fun e w' => ∃ v ss, e = .returned v ∧ HostsOf f lun ss ∧ w'.ownsRow w.heap.size 9 1 v ss.length (ss.map encStr) ∧ Below w.heap.size w w' := by
  obtain ⟨hB, m, h⟩ := h
  cases m with
  | none =>
    have hf : f = fun _ _ => [] := by
      rcases h.map with ⟨_, hf⟩ | ⟨mb, D, h1, _⟩
      · exact hf
      · cases h1
    refine (hosts_nil hsn b n f _ lun w h).mono ?_
    rintro e w' ⟨rfl, hb⟩
    refine ⟨_, [], rfl, ⟨List.Pairwise.nil, List.nodup_nil, (fun x hx => by cases hx), fun host _ => ?_⟩, World.ownsRow_nil _ _ _ _, hb⟩
    rw [hf]
    simp
  | some mb => exact hosts_some hsort hsn b n mb f _ lun w h hn hl
end Go.Proofs.Ytbcofdecdknkeaa
