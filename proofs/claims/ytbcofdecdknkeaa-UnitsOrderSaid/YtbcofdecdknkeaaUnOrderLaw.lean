/- units: UnitsOrder: the walk. -/
import Derived.Test.YtbcofdecdknkeaaUnOrder
import Derived.Test.YtbcofdecdknkeaaUnOwnI
namespace Go.Proofs.Ytbcofdecdknkeaa
open Go.RowKit Go.Deep Go.Maps

/-- the Units, and a slice of the call's own beside it. -/
structure Ord (B : Nat) (w0 wr : World) (n : Nat) (f : Int → ByteArray → List Int) (v : Value) (xs : List Int) : Prop where
  below : Below B w0 wr
  size : B ≤ wr.heap.size
  own : OwnI wr B v xs
  at_ : ∃ F m, UnitsAt wr B n f F m ∧ (∀ g, F g → B ≤ g ∧ g < wr.heap.size) ∧ ∀ g, v.ownBlock = some g → ¬ F g
theorem Ord.left {B : Nat} {w0 wr w' : World} {n n' : Nat} {f f' : Int → ByteArray → List Int} {v r : Value} {xs : List Int} {e : Ending} {F : Nat → Prop} (h : Ord B w0 wr n f v xs) (hF : ∀ g, F g → B ≤ g ∧ g < wr.heap.size) (hd : ∀ g, v.ownBlock = some g → ¬ F g) (hl : Left wr B n' F f' r e w') : e = .returned r ∧ Ord B w0 w' n' f' v xs := by
  obtain ⟨rfl, ⟨m, h1⟩, h2⟩ := hl
  refine ⟨rfl, h.below.trans (h2.below (fun i hi hk => by have := (hF i hk).1; omega) h.size), Nat.le_trans h.size h2.size, h.own.keep (fun g hg => h2.block g (h.own.block g hg).2 (hd g hg)), _, m, h1, fun g hg => ?_, fun g hg hk => ?_⟩
  · rcases hg with hg | ⟨hg1, hg2⟩
    · exact ⟨(hF g hg).1, Nat.lt_of_lt_of_le (hF g hg).2 h2.size⟩
    · exact ⟨Nat.le_trans h.size hg1, hg2⟩
  · rcases hk with hk | ⟨hk1, _⟩
    · exact hd g hg hk
    · have := (h.own.block g hg).2; omega
theorem Ord.new {B : Nat} {w0 wr w' : World} {n : Nat} {f : Int → ByteArray → List Int} {v : Value} {xs : List Int} (h : Ord B w0 wr n f v xs) (hb : Below wr.heap.size wr w') : Ord B w0 w' n f v xs := by
  obtain ⟨h1, h2, h3, F, m, h4, h5, h6⟩ := h
  exact ⟨h1.trans (hb.mono h2), Nat.le_trans h2 hb.size, h3.keep (fun g hg => hb.block g (h3.block g hg).2), F, m, h4.stay (Mod.of_new (F := fun _ => False) hb) (fun _ _ h => h), fun g hg => ⟨(h5 g hg).1, Nat.lt_of_lt_of_le (h5 g hg).2 hb.size⟩, h6⟩
theorem Ord.app {B : Nat} {w0 wr w' : World} {n : Nat} {f : Int → ByteArray → List Int} {v v' : Value} {xs ys : List Int} (h : Ord B w0 wr n f v xs) (ho : OwnI w' B v' ys) (hg : wr.grownBy w' v.ownBlock) (hv : v'.ownBlock = v.ownBlock ∨ ∃ g, v'.ownBlock = some g ∧ wr.heap.size ≤ g) : Ord B w0 w' n f v' ys := by
  obtain ⟨h1, h2, h3, F, m, h4, h5, h6⟩ := h
  refine ⟨h1.grown hg h2 (fun k hk => (h3.block k hk).1), Nat.le_trans h2 hg.size, ho, F, m, h4.stay (Mod.of_grown (F := fun k => v.ownBlock = some k) hg (fun k e => e)) (fun k hk e => h6 k e hk), fun g hg' => ⟨(h5 g hg').1, Nat.lt_of_lt_of_le (h5 g hg').2 hg.size⟩, fun g hg' hF => ?_⟩
  rcases hv with hv | ⟨g', hv, hge⟩
  · exact h6 g (by rw [← hv]; exact hg') hF
  · rw [hv] at hg'
    cases hg'
    have := (h5 g hF).2
    omega
theorem Ord.tail {B : Nat} {w0 wr : World} {n g o L cap : Nat} {f : Int → ByteArray → List Int} {xs : List Int} (h : Ord B w0 wr n f (.slice (some ⟨g, o, none⟩) L cap) xs) (hL : L = xs.length) (hne : xs ≠ []) : Ord B w0 wr n f (.slice (some ⟨g, o + 1, none⟩) (L - 1) (cap - 1)) xs.tail := by
  subst hL
  exact ⟨h.below, h.size, h.own.tail hne, h.at_⟩
theorem Ord.add {B : Nat} {w0 wr : World} {n : Nat} {f : Int → ByteArray → List Int} {v : Value} {xs : List Int} (h : Ord B w0 wr n f v xs) (lun why : Int) (host : ByteArray) (hn : n < maxLen) (hh : host.size ≤ maxLen) :
    Calls Try.prog 7 #[.pointer (some ⟨B, 0, none⟩), .int .i64 lun, .string host, .int .i64 why] wr fun e w' => e = .returned (.bool (addR f lun host why)) ∧ Ord B w0 w' (n + 1) (addF f lun host why) v xs := by
  obtain ⟨F, m, h4, h5, h6⟩ := h.at_
  exact (add_any B n f F m lun why host wr h4 hn hh).mono fun e w' hl => h.left h5 h6 hl
theorem Ord.take {B : Nat} {w0 wr : World} {n : Nat} {f : Int → ByteArray → List Int} {v : Value} {xs : List Int} (h : Ord B w0 wr n f v xs) (lun : Int) (host : ByteArray) (hn : n < maxLen) (hl : (Lit.int .i64 lun).wf = true) (hh : host.size ≤ maxLen) :
    Calls Try.prog 9 #[.pointer (some ⟨B, 0, none⟩), .int .i64 lun, .string host] wr fun e w' => e = .returned (.tuple #[.int .i64 ((f lun host).headD 0), .bool (!(f lun host).isEmpty)]) ∧ Ord B w0 w' (n + 1) (upd f lun host (f lun host).tail) v xs := by
  obtain ⟨F, m, h4, h5, h6⟩ := h.at_
  exact (take_any B n f F m lun host wr h4 hn hl hh).mono fun e w' hl => h.left h5 h6 hl
theorem Ord.wait {B : Nat} {w0 wr : World} {n : Nat} {f : Int → ByteArray → List Int} {v : Value} {xs : List Int} (h : Ord B w0 wr n f v xs) (lun : Int) (host : ByteArray) (hl : (Lit.int .i64 lun).wf = true) (hh : host.size ≤ maxLen) :
    Calls Try.prog 11 #[.pointer (some ⟨B, 0, none⟩), .int .i64 lun, .string host] wr fun e w' => e = .returned (.int .i64 (f lun host).length) ∧ wr = w' := by
  obtain ⟨F, m, h4, h5, h6⟩ := h.at_
  exact wait_any B n f F m lun host wr h4 hl hh
theorem Ord.hosts {B : Nat} {w0 wr : World} {n : Nat} {v : Value} {xs : List Int} (h : Ord B w0 wr n (fun _ _ => []) v xs) (lun : Int) (hn : n ≤ 100000) (hl : (Lit.int .i64 lun).wf = true) :
    Calls Try.prog 14 #[.pointer (some ⟨B, 0, none⟩), .int .i64 lun] wr fun e w' => (∃ a cap, e = .returned (.slice a 0 cap)) ∧ Below B w0 w' := by
  obtain ⟨F, m, h4, h5, h6⟩ := h.at_
  refine (hosts_any B B n _ lun wr ⟨h.size, m, h4.mono (fun k _ hk => (h5 k hk).1)⟩ hn hl).mono ?_
  rintro e w' ⟨v, ss, rfl, h7, h8, h9⟩
  have hss : ss = [] := by
    cases ss with
    | nil => rfl
    | cons x l =>
      have := (h7.mem ⟨x.toArray⟩ (by have := h7.le x (by simp); simpa [ByteArray.size] using this)).1 (by simp)
      exact absurd rfl this
  subst hss
  refine ⟨?_, h.below.trans (h9.mono h.size)⟩
  rcases h8.2 with ⟨rfl, _⟩ | ⟨g, cap, _, rfl, _⟩
  · exact ⟨none, 0, rfl⟩
  · exact ⟨_, cap, rfl⟩

set_option maxHeartbeats 2000000 in
set_option maxRecDepth 100000 in
theorem unitsOrder_out (lun : Int) (host : ByteArray) (a1 : Option Addr) (len cap : Nat) (w : World) (hh : host.size ≤ 9223372036854775807) (hl : len ≤ 9223372036854775807) (h : 100 < len ∨ 1000 < host.size ∨ nameB host = false) : Calls Try.prog 4 #[.int .i64 lun, .string host, .slice a1 len cap] w fun e w' => e = .returned (.bool true) ∧ Below w.heap.size w w' := by
  have hnm := fun w => refName_any host w hh
  have Hnm := Lib.hid hnm
  clear hnm
  have hcase : 100 < len ∨ (len ≤ 100 ∧ 1000 < host.size) ∨ (len ≤ 100 ∧ host.size ≤ 1000 ∧ nameB host = false) := by
    rcases h with h | h | h
    · exact .inl h
    · omega
    · by_cases h1 : 100 < len
      · exact .inl h1
      · by_cases h2 : 1000 < host.size
        · exact .inr (.inl ⟨by omega, h2⟩)
        · exact .inr (.inr ⟨by omega, by omega, h⟩)
  clear h
  rcases hcase with h1 | ⟨h1, h2⟩ | ⟨h1, h2, h3⟩
  · clear Hnm
    go_enter Try.func4, Try.ntmps4
    go_wp2_with (first
      | (go_at_call 6; refine (new_b _).mono ?_; rintro e w1 ⟨rfl, _, hb1⟩)
      | (go_at_call 8; refine (wakes_any _).mono ?_; rintro e w2 ⟨rfl, hb2⟩; have Hb2 := Lib.hid (hb1.trans (hb2.mono hb1.size)); clear hb2)
      | fail)
    go_ret
    exact ⟨rfl, Hb2.out⟩
  · clear Hnm
    go_enter Try.func4, Try.ntmps4
    go_wp2_with (first
      | (go_at_call 6; refine (new_b _).mono ?_; rintro e w1 ⟨rfl, _, hb1⟩)
      | (go_at_call 8; refine (wakes_any _).mono ?_; rintro e w2 ⟨rfl, hb2⟩; have Hb2 := Lib.hid (hb1.trans (hb2.mono hb1.size)); clear hb2)
      | fail)
    go_ret
    exact ⟨rfl, Hb2.out⟩
  · have hnm := Hnm.out
    rw [h3] at hnm
    have Hn2 := Lib.hid hnm
    clear hnm Hnm h3
    go_enter Try.func4, Try.ntmps4
    go_wp2_with (first
      | (go_at_call 6; refine (new_b _).mono ?_; rintro e w1 ⟨rfl, _, hb1⟩)
      | (go_at_call 12; refine (Hn2.out _).mono ?_; rintro e w3 ⟨rfl, rfl⟩)
      | (go_at_call 8; refine (wakes_any _).mono ?_; rintro e w2 ⟨rfl, hb2⟩; have Hb2 := Lib.hid (hb1.trans (hb2.mono hb1.size)); clear hb2)
      | fail)
    go_ret
    exact ⟨rfl, Hb2.out⟩

theorem last_ne {xs : List Int} (h : xs ≠ []) : xs.getLast? = some (xs.getD (xs.length - 1) 0) := last_at h
theorem addW_nil (y : Int) : addW [] y = [y] := by simp [addW]
theorem addW_same {xs : List Int} {y : Int} (h : xs.getLast? = some y) : addW xs y = xs := by unfold addW; rw [if_pos h]
theorem addW_more {xs : List Int} {y : Int} (h : xs.getLast? ≠ some y) (h8 : xs.length ≠ 8) : addW xs y = xs ++ [y] := by unfold addW; rw [if_neg h, if_neg h8]
theorem addW_full {xs : List Int} {y : Int} (h : xs.getLast? ≠ some y) (h8 : xs.length = 8) : addW xs y = (xs ++ [y]).tail := by
  unfold addW
  rw [if_neg h, if_pos h8]
  cases xs with
  | nil => simp at h8
  | cons x l => rfl
theorem drop_head (xs : List Int) (j : Nat) (hj : j < xs.length) : (xs.drop j).headD 0 = xs.getD j 0 ∧ (xs.drop j).isEmpty = false ∧ (xs.drop j).tail = xs.drop (j + 1) := by
  rw [List.drop_eq_getElem_cons hj]
  simp [hj]
theorem wf_mod8 (a : Int) : (Lit.int .i64 (a % 8)).wf = true := WalkArith.wf_i64 (by omega)
theorem OwnI.has {w : World} {B : Nat} {v : Value} {xs : List Int} (h : OwnI w B v xs) (j : Nat) (hj : j < xs.length) : ∃ g o cap, v = .slice (some ⟨g, o, none⟩) xs.length cap ∧ xs.length ≤ cap ∧ w.cell? ⟨g, o + j, none⟩ = some (.int .i64 (xs.getD j 0)) := by
  obtain ⟨g, o, cap, h1, h2, _, _, h3⟩ := h.cell (by intro e; rw [e] at hj; cases hj)
  exact ⟨g, o, cap, h1, h2, h3 j hj⟩

theorem Ord.cellOf {B : Nat} {w0 wr : World} {n g o L cap : Nat} {f : Int → ByteArray → List Int} {xs : List Int} (h : Ord B w0 wr n f (.slice (some ⟨g, o, none⟩) L cap) xs) (j : Nat) (hj : j < xs.length) : wr.cell? ⟨g, o + j, none⟩ = some (.int .i64 (xs.getD j 0)) := by
  obtain ⟨g', o', cp', hv, _, hc⟩ := h.own.has j hj
  injection hv with hv1 _ _
  injection hv1 with hv1
  injection hv1 with h1 h2 _
  subst h1 h2
  exact hc

theorem zeroLen : ((([] : List Int).length : Nat) : Int) = 0 := rfl
set_option maxHeartbeats 8000000 in
set_option maxRecDepth 100000 in
theorem unitsOrder_in (lun : Int) (host : ByteArray) (a1 : Option Addr) (len cap : Nat) (Z : Nat → Int) (w : World) (hlun : (Lit.int .i64 lun).wf = true) (hh : host.size ≤ 1000) (hl : len ≤ 100) (hn : nameB host = true) (hZ : IntRow w a1 len Z) : Calls Try.prog 4 #[.int .i64 lun, .string host, .slice a1 len cap] w fun e w' => e = .returned (.bool true) ∧ Below w.heap.size w w' := by
  have hhm : host.size ≤ maxLen := by unfold maxLen; omega
  have hnm := fun w => refName_any host w (by omega)
  rw [hn] at hnm
  have hmod : ∀ w, Calls Try.prog 13 #[.int .i64 lun, .int .i64 8] w fun e w' => e = .returned (.int .i64 (lun % 8)) ∧ w = w' := fun w => mod_any lun 8 w (by omega) (by omega) hlun
  have hkw := wf_mod8 lun
  obtain ⟨u, hu⟩ : ∃ u, u = lun % 8 := ⟨_, rfl⟩
  have hu0 : 0 ≤ u ∧ u < 8 := by omega
  rw [← hu] at hmod hkw
  obtain ⟨hu1, hu2⟩ := hu0
  have Hnm := Lib.hid hnm
  have Hmod := Lib.hid hmod
  have Hkw := Lib.hid hkw
  have Hn := Lib.hid hn
  have HZ := Lib.hid hZ
  have Hhm := Lib.hid hhm
  clear hnm hmod hkw hu hn hZ hlun hhm
  go_enter Try.func4, Try.ntmps4
  go_wp2_with (first
    | (go_at_call 6; refine (new_any _).mono ?_; rintro e w1 ⟨rfl, hu3, hb1, hlt1⟩)
    | (go_at_call 12; refine (Hnm.out _).mono ?_; rintro e w3 ⟨rfl, rfl⟩)
    | (go_at_call 13; refine (Hmod.out _).mono ?_; rintro e w4 ⟨rfl, rfl⟩)
    | fail)
  have hord : Ord w.heap.size w w1 0 (one u host []) (.slice none 0 0) [] := ⟨hb1, hb1.size, OwnI.nil _ _, _, none, by rw [one_nil]; exact hu3, fun g hg => by subst hg; exact ⟨Nat.le_refl _, hlt1⟩, fun g hg => by cases hg⟩
  have Hord := Lib.hid hord
  clear hord hu3 hb1 hlt1
  go_loopw [9, 10] (fun v i wr => ∃ k : Nat, k ≤ len ∧ i = .int .i64 k ∧ Ord w.heap.size w wr k (one u host (wants Z k)) v (wants Z k)) (fun _ i _ => len - (intOf i).toNat)
  case atStart => exact ⟨0, by omega, rfl, Hord.out⟩
  case round =>
    clear Hord
    obtain ⟨k, hk, rfl, hord⟩ := hrel
    have hwl := wants_len Z k
    have hws : wants Z (k + 1) = addW (wants Z k) (whyOf (Z k)) := rfl
    obtain ⟨xs, hxs⟩ : ∃ xs, xs = wants Z k := ⟨_, rfl⟩
    rw [← hxs] at hord hwl hws
    have Hws := Lib.hid hws
    have Hord := Lib.hid hord
    have Hxs := Lib.hid hxs
    clear hws hxs hord
    by_cases hlt : k < len
    · obtain ⟨hwf, sb, so, rfl, hc⟩ := (HZ.out.below Hord.out.below) k hlt
      have hmz : ∀ w, Calls Try.prog 13 #[.int .i64 (Z k), .int .i64 4] w fun e w' => e = .returned (.int .i64 (Z k % 4)) ∧ w = w' := fun w => mod_any (Z k) 4 w (by omega) (by omega) hwf
      have hy : whyOf (Z k) = 1 + Z k % 4 := rfl
      obtain ⟨z, hz⟩ : ∃ z, z = Z k % 4 := ⟨_, rfl⟩
      obtain ⟨q, hq⟩ : ∃ q, q = Z k := ⟨_, rfl⟩
      have hz1 : 0 ≤ z ∧ z < 4 := by omega
      obtain ⟨hz1, hz2⟩ := hz1
      rw [← hz] at hmz hy
      rw [← hq] at hmz hc
      have Hws2 : Hid (wants Z (k + 1) = addW xs (1 + z)) := by show _ = _; rw [Hws.out, hy]
      have Hmz := Lib.hid hmz
      clear Hws hz hq hmz hy hwf
      have Hadd := Lib.hid (Hord.out.add u (1 + z) host (by unfold maxLen; omega) Hhm.out)
      have HR := Lib.hid (one_addR u host xs (1 + z) hu1 hu2 (by omega) Hn.out)
      have HF := Lib.hid (one_addF u host xs (1 + z) hu1 hu2 (by omega) Hn.out)
      by_cases hnil : xs = []
      · subst hnil
        obtain ⟨a, cp, hv⟩ : ∃ a cp, u9 = .slice a 0 cp := by
          obtain ⟨a, cp, h⟩ := Hord.out.own.slice
          exact ⟨a, cp, h⟩
        subst hv
        have hr : addR (one u host []) u host (1 + z) = true := by rw [HR.out]; rfl
        have hadd := Hadd.out
        rw [hr, HF.out, addW_nil] at hadd
        have Hadd2 := Lib.hid hadd
        clear hadd hr Hadd HR HF
        have hw1 : wants Z (k + 1) = [1 + z] := by rw [Hws2.out, addW_nil]
        have Hw1 := Lib.hid hw1
        clear hw1 Hws2
        go_wp2_with (first
          | (go_at_call 13; refine (Hmz.out _).mono ?_; rintro e w4 ⟨rfl, rfl⟩)
          | (go_at_call 7; refine Hadd2.out.mono ?_; rintro e w5 ⟨rfl, ho5⟩; have Ho5 := Lib.hid ho5; clear ho5)
          | (at_builtin; refine wpList_append_I rfl (.tmp 76) (.tmp 78) rfl w.heap.size _ [] rfl ((Ho5.out.new ((Below.refl _ _).alloc (Nat.le_refl _) (.cells #[.int .i64 (1 + z)] 3))).own) (by simp) (by have := Ho5.out.size; simp; omega) ⟨w5.heap.size, 0, none⟩ 1 (1 + z) rfl (by simp) ?_; intro v6 w6 ho6 hg6 hv6; have Ho6 := Lib.hid ((Ho5.out.new ((Below.refl _ _).alloc (Nat.le_refl _) (.cells #[.int .i64 (1 + z)] 3))).app ho6 hg6 (by rcases hv6 with h | ⟨g, h1, h2⟩; exact .inl h; exact .inr ⟨g, h1, h2⟩)); obtain ⟨a6, cp6, hs6⟩ := ho6.slice; clear ho6 hg6 hv6; subst hs6; rw [List.nil_append] at Ho6 ⊢)
          | fail)
        exact ⟨⟨k + 1, by omega, by go_num, by rw [Hw1.out]; exact Ho6.out⟩, by simp [intOf]; omega⟩
      · have hlast := last_ne hnil
        have hpos : 0 < xs.length := List.length_pos_iff.2 hnil
        obtain ⟨L, hL⟩ : ∃ L, L = xs.length := ⟨_, rfl⟩
        obtain ⟨g, o, cp, hv, hcp, hcl⟩ := Hord.out.own.has (xs.length - 1) (by omega)
        obtain ⟨la, hla⟩ : ∃ la, la = xs.getD (xs.length - 1) 0 := ⟨_, rfl⟩
        rw [← hla] at hcl hlast
        rw [← hL] at hcl hcp hv hpos hwl
        subst hv
        have HL := Lib.hid hL
        have Hnil : Hid (xs ≠ []) := hnil
        have Hlast := Lib.hid hlast
        clear hL hla hnil hlast
        have hpos1 : (1 : Int) ≤ (L : Int) := by omega
        by_cases heq : la = 1 + z
        · have hr : addR (one u host xs) u host (1 + z) = false := by rw [HR.out, Hlast.out, heq]; simp
          have hadd := Hadd.out
          rw [hr, HF.out, addW_same (by rw [Hlast.out, heq])] at hadd
          have hw1 : wants Z (k + 1) = xs := by rw [Hws2.out, addW_same (by rw [Hlast.out, heq])]
          have Hw1 := Lib.hid hw1
          have Hadd2 := Lib.hid hadd
          subst heq
          clear hadd hr Hadd HR HF hw1 Hws2 Hlast
          go_wp2_with (first
            | (go_at_call 13; refine (Hmz.out _).mono ?_; rintro e w4 ⟨rfl, rfl⟩)
            | (go_at_call 7; refine Hadd2.out.mono ?_; rintro e w5 ⟨rfl, ho5⟩; have Ho5 := Lib.hid ho5; clear ho5)
            | fail)
          exact ⟨⟨k + 1, by omega, by go_num, by rw [Hw1.out]; exact Ho5.out⟩, by simp [intOf]; omega⟩
        · have hne : xs.getLast? ≠ some (1 + z) := by rw [Hlast.out]; simpa using heq
          have hr : addR (one u host xs) u host (1 + z) = true := by rw [HR.out]; simpa using hne
          have hq : (la != 1 + z) = true := by simpa using heq
          have hadd := Hadd.out
          rw [hr, HF.out] at hadd
          have Hne := Lib.hid hne
          clear heq hne hr Hlast HR HF Hadd
          by_cases h8 : L = 8
          · have hx8 : xs.length = 8 := by rw [← HL.out, h8]
            rw [addW_full Hne.out hx8] at hadd
            have hw1 : wants Z (k + 1) = (xs ++ [1 + z]).tail := by rw [Hws2.out, addW_full Hne.out hx8]
            have Hw1 := Lib.hid hw1
            have Hadd2 := Lib.hid hadd
            subst h8
            clear hadd hw1 hx8 Hws2
            go_wp2_with (first
              | (go_at_call 13; refine (Hmz.out _).mono ?_; rintro e w4 ⟨rfl, rfl⟩)
              | (go_at_call 7; refine Hadd2.out.mono ?_; rintro e w5 ⟨rfl, ho5⟩; have Ho5 := Lib.hid ho5; clear ho5)
              | (at_builtin; refine wpList_append_I rfl (.tmp 76) (.tmp 78) rfl w.heap.size _ xs rfl ((Ho5.out.new ((Below.refl _ _).alloc (Nat.le_refl _) (.cells #[.int .i64 (1 + z)] 3))).own) (by have := HL.out; omega) (by have := Ho5.out.size; simp; omega) ⟨w5.heap.size, 0, none⟩ 1 (1 + z) rfl (by simp) ?_; intro v6 w6 ho6 hg6 hv6; have Ho6 := Lib.hid ((Ho5.out.new ((Below.refl _ _).alloc (Nat.le_refl _) (.cells #[.int .i64 (1 + z)] 3))).app ho6 hg6 (by rcases hv6 with h | ⟨g, h1, h2⟩; exact .inl h; exact .inr ⟨g, h1, h2⟩)); obtain ⟨g6, o6, cp6, hs6, hcp6, _⟩ := ho6.has 0 (by simp); have hl6 : (xs ++ [1 + z]).length = 8 + 1 := (by have := HL.out; simp; omega); rw [hl6] at hs6 hcp6; clear ho6 hg6 hv6 hl6; subst hs6)
              | fail)
            exact ⟨⟨k + 1, by omega, by go_num, by rw [Hw1.out]; exact Ho6.out.tail (by have := HL.out; simp; omega) (by simp)⟩, by simp [intOf]; omega⟩
          · have hx8 : xs.length ≠ 8 := by rw [← HL.out]; exact h8
            have hL7 : L ≤ 7 := by omega
            rw [addW_more Hne.out hx8] at hadd
            have hw1 : wants Z (k + 1) = xs ++ [1 + z] := by rw [Hws2.out, addW_more Hne.out hx8]
            have Hw1 := Lib.hid hw1
            have Hadd2 := Lib.hid hadd
            clear hadd hw1 hx8 Hws2 h8
            go_wp2_with (first
              | (go_at_call 13; refine (Hmz.out _).mono ?_; rintro e w4 ⟨rfl, rfl⟩)
              | (go_at_call 7; refine Hadd2.out.mono ?_; rintro e w5 ⟨rfl, ho5⟩; have Ho5 := Lib.hid ho5; clear ho5)
              | (at_builtin; refine wpList_append_I rfl (.tmp 76) (.tmp 78) rfl w.heap.size _ xs rfl ((Ho5.out.new ((Below.refl _ _).alloc (Nat.le_refl _) (.cells #[.int .i64 (1 + z)] 3))).own) (by have := HL.out; omega) (by have := Ho5.out.size; simp; omega) ⟨w5.heap.size, 0, none⟩ 1 (1 + z) rfl (by simp) ?_; intro v6 w6 ho6 hg6 hv6; have Ho6 := Lib.hid ((Ho5.out.new ((Below.refl _ _).alloc (Nat.le_refl _) (.cells #[.int .i64 (1 + z)] 3))).app ho6 hg6 (by rcases hv6 with h | ⟨g, h1, h2⟩; exact .inl h; exact .inr ⟨g, h1, h2⟩)); obtain ⟨g6, o6, cp6, hs6, hcp6, _⟩ := ho6.has 0 (by simp); have hl6 : (xs ++ [1 + z]).length = L + 1 := (by have := HL.out; simp; omega); rw [hl6] at hs6 hcp6; clear ho6 hg6 hv6 hl6; subst hs6)
              | fail)
            exact ⟨⟨k + 1, by omega, by go_num, by rw [Hw1.out]; exact Ho6.out⟩, by simp [intOf]; omega⟩
    · obtain rfl : k = len := by omega
      have hwt := Hord.out.wait u host Hkw.out Hhm.out
      rw [one_at] at hwt
      obtain ⟨a9, c9, hv⟩ := Hord.out.own.slice
      subst hv
      obtain ⟨L, hL⟩ : ∃ L, L = xs.length := ⟨_, rfl⟩
      rw [← hL] at hwt hwl ⊢
      have HL := Lib.hid hL
      have Hwt := Lib.hid hwt
      clear hL hwt Hws Hmod Hnm
      go_wp2_with (first
        | (go_at_call 11; refine Hwt.out.mono ?_; rintro e w5 ⟨rfl, rfl⟩)
        | fail)
      clear Hwt
      go_loopw [13] (fun i wx => ∃ j : Nat, j ≤ L ∧ i = .int .i64 j ∧ Ord w.heap.size w wx (k + j) (one u host (xs.drop j)) (.slice a9 L c9) xs) (fun i _ => L - (intOf i).toNat)
      case atStart => exact ⟨0, by omega, rfl, by have := Hord.out; rw [← HL.out] at this; simpa using this⟩
      case round =>
        obtain ⟨j, hj, rfl, hord2⟩ := hrel
        clear Hord
        have Hord := Lib.hid hord2
        clear hord2
        have hadd := Hord.out.take u host (by unfold maxLen; omega) Hkw.out Hhm.out
        rw [one_at, one_upd] at hadd
        by_cases hlt2 : j < L
        · obtain ⟨e1, e2, e3⟩ := drop_head xs j (by rw [← HL.out]; exact hlt2)
          obtain ⟨g, o, cp, hv, hcp, hcl⟩ := Hord.out.own.has j (by rw [← HL.out]; exact hlt2)
          rw [← HL.out] at hv hcp
          injection hv with hv1 _ hv3
          subst hv1 hv3
          rw [e1, e2, e3] at hadd
          obtain ⟨y, hy⟩ : ∃ y, y = xs.getD j 0 := ⟨_, rfl⟩
          rw [← hy] at hadd hcl
          have Hy := Lib.hid hy
          have Htk := Lib.hid hadd
          clear hadd e1 e2 e3 hy
          go_wp2_with (first
            | (go_at_call 9; refine Htk.out.mono ?_; rintro e w5 ⟨rfl, ho5⟩; have hc5 := ho5.cellOf j (by rw [← HL.out]; exact hlt2); rw [← Hy.out] at hc5; have Ho5 := Lib.hid ho5; clear ho5)
            | fail)
          go_roundw
          case rel => exact ⟨j + 1, by omega, by go_num, Ho5.out⟩
          case measure => simp [intOf]; omega
        · obtain rfl : j = L := by omega
          rw [show xs.drop j = [] by rw [HL.out]; simp] at hadd
          have Htk := Lib.hid hadd
          clear hadd
          go_wp2_with (first
            | (go_at_call 9; refine Htk.out.mono ?_; rintro e w5 ⟨rfl, ho5⟩; have hw5 := ho5.wait u host Hkw.out Hhm.out; rw [List.tail_nil, one_at, zeroLen] at hw5; have Hwt5 := Lib.hid hw5; clear hw5; have ho6 := ho5; rw [List.tail_nil, one_nil] at ho6; have Hho := Lib.hid (ho6.hosts u (by omega) Hkw.out); clear ho5 ho6)
            | (go_at_call 11; refine Hwt5.out.mono ?_; rintro e w6 ⟨rfl, rfl⟩)
            | (go_at_call 14; refine Hho.out.mono ?_; rintro e w7 ⟨⟨a7, c7, rfl⟩, hb7⟩; have Hb7 := Lib.hid hb7; clear hb7)
            | (go_at_call 8; refine (wakes_any _).mono ?_; rintro e w8 ⟨rfl, hb8⟩; have Hb8 := Lib.hid (Hb7.out.trans (hb8.mono Hb7.out.size)); clear hb8)
            | fail)
          go_ret
          exact ⟨rfl, Hb8.out⟩
theorem unitsOrder_any (lun : Int) (host : ByteArray) (a1 : Option Addr) (len cap : Nat) (Z : Nat → Int) (w : World) (hlun : (Lit.int .i64 lun).wf = true) (hh : host.size ≤ maxLen) (hl : len ≤ maxLen) (hZ : IntRow w a1 len Z) : Calls Try.prog 4 #[.int .i64 lun, .string host, .slice a1 len cap] w fun e w' => e = .returned (.bool true) ∧ Below w.heap.size w w' := by
  unfold maxLen at hh hl
  by_cases h : 100 < len ∨ 1000 < host.size ∨ nameB host = false
  · exact unitsOrder_out lun host a1 len cap w (by omega) (by omega) h
  · have hn : nameB host = true := by
      cases hn : nameB host
      · exact absurd (.inr (.inr hn)) h
      · rfl
    exact unitsOrder_in lun host a1 len cap Z w hlun (by omega) (by omega) hn hZ
end Go.Proofs.Ytbcofdecdknkeaa
