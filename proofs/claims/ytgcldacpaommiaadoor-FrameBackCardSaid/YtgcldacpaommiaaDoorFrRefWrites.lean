/- frames: writes as a text: the reference's walk. -/
import Derived.Test.YtgcldacpaommiaaDoorFrWrites
import Derived.Test.YtgcldacpaommiaaDoorFrBytes
import Derived.Test.YtgcldacpaommiaaDoorFrRefPut
import Derived.Deep.RegionHeld3
namespace Go.Proofs.YtgcldacpaommiaaDoor
open Go.RowKit Go.Deep

theorem WrRow.cells {w : World} {sb so len : Nat} {T : Nat → Wr} (h : WrRow w (some ⟨sb, so, none⟩) len T) (j : Nat) (hj : j < len) : (T j).data.size ≤ 9223372036854775807 ∧ w.cell? ⟨sb, so + j * 2, none⟩ = some (.int .i64 (T j).at') ∧ w.cell? ⟨sb, so + j * 2 + 1, none⟩ = some (.string (T j).data) := by
  obtain ⟨⟨_, h0⟩, sb', so', e, h1, h2⟩ := h j hj
  injection e with e
  injection e with e1 e2 _
  subst e1 e2
  exact ⟨by unfold maxLen at h0; omega, h1, h2⟩

set_option maxHeartbeats 2000000 in
set_option maxRecDepth 100000 in
theorem rwrites_many (a1 : Option Addr) (len cap : Nat) (w : World) (h : 80 < len) (hl : len ≤ 9223372036854775807) : Calls Tryd.prog 17 #[.slice a1 len cap] w fun e w' => e = .returned (.tuple #[.string ⟨#[]⟩, .int .i64 3]) ∧ Below w.heap.size w w' := by
  go_enter Tryd.func17, Tryd.ntmps17
  go_wp2_with fail
  go_ret2
  exact ⟨rfl, Below.refl _ _⟩

set_option maxHeartbeats 4000000 in
set_option maxRecDepth 100000 in
theorem rwrites_bad (a1 : Option Addr) (len cap m : Nat) (T : Nat → Wr) (w : World) (h : ¬ 80 < len) (hT : WrRow w a1 len T) (hm : m < len) (hbad : badW (T m) = true) (hgd : ∀ j, j < m → badW (T j) = false) :
    Calls Tryd.prog 17 #[.slice a1 len cap] w fun e w' => e = .returned (.tuple #[.string ⟨#[]⟩, .int .i64 40]) ∧ w = w' := by
  obtain ⟨_, sb, so, rfl, _, _⟩ := hT 0 (by omega)
  have HT := Lib.hid hT
  have hle : len ≤ 80 := by omega
  have Hgd := Lib.hid hgd
  have Hbad := Lib.hid hbad
  clear hT h hgd hbad
  go_enter Tryd.func17, Tryd.ntmps17
  go_wp2_with fail
  go_loop [4] (fun i => ∃ k : Nat, k ≤ m ∧ i = .int .i64 k) (fun i => m - (intOf i).toNat)
  case atStart => exact ⟨0, by omega, rfl⟩
  case round =>
    obtain ⟨k, hk, rfl⟩ := hrel
    obtain ⟨hmx, c0, c1⟩ := HT.out.cells k (by omega)
    by_cases hlt : k < m
    · obtain ⟨g0, g1, g2⟩ := badW_false (Hgd.out k hlt)
      obtain ⟨x, hx⟩ : ∃ x, x = T k := ⟨_, rfl⟩
      rw [← hx] at c0 c1 g0 g1 g2 hmx
      clear hx
      have g3 : ((x.data.size : Int) != 512) = false := by simp [g2]
      have hkl : k < len := by omega
      clear g2
      go_wp2_with fail
      go_round
      case rel => exact ⟨k + 1, by omega, by go_num⟩
      case measure => simp [intOf]; omega
    · obtain rfl : k = m := by omega
      have hcase := badW_true Hbad.out
      obtain ⟨x, hx⟩ : ∃ x, x = T k := ⟨_, rfl⟩
      rw [← hx] at c0 c1 hcase hmx
      clear hx
      by_cases g0 : x.at' < 0
      · clear hcase
        go_wp2_with fail
        go_ret2
        exact ⟨rfl, rfl⟩
      by_cases g1 : 8192 ≤ x.at'
      · clear hcase
        go_wp2_with fail
        go_ret2
        exact ⟨rfl, rfl⟩
      have g2 : ((x.data.size : Int) != 512) = true := by simp; omega
      clear hcase
      go_wp2_with fail
      go_ret2
      exact ⟨rfl, rfl⟩

theorem own_block {w : World} {B : Nat} {v : Value} {l : List UInt8} (h : OwnB w B v l) : ∀ k, v.ownBlock = some k → B ≤ k := fun k hk => by
  obtain ⟨g, cap, rfl, h1, _⟩ := h.lt
  simp [Value.ownBlock] at hk
  omega
theorem grown_cell {w w' : World} {B b o : Nat} {v u : Value} {l : List UInt8} (hg : w.grownBy w' v.ownBlock) (h : OwnB w B v l) (hb : b < B) (hc : w.cell? ⟨b, o, none⟩ = some u) : w'.cell? ⟨b, o, none⟩ = some u := by
  rw [World.cell?_of_block (w := w) (a := ⟨b, o, none⟩) (hg.block b (World.block_lt_of_cell? w _ hc) (fun e => by
    have := own_block h b e.symm
    omega))]
  exact hc

theorem OwnB.mono {w : World} {B B' : Nat} {v : Value} {l : List UInt8} (h : OwnB w B v l) (hB : B' ≤ B) : OwnB w B' v l := by
  obtain ⟨g, cap, cur, fz, h1, h2, h3⟩ := h
  exact ⟨g, cap, cur, fz, h1, Nat.le_trans hB h2, h3⟩

set_option maxHeartbeats 4000000 in
set_option maxRecDepth 100000 in
theorem rwrites_good (sb so len cap : Nat) (a1 : Option Addr) (T : Nat → Wr) (w : World) (h : ¬ 80 < len) (ha1 : len ≠ 0 → a1 = some ⟨sb, so, none⟩) (hT : WrRow w a1 len T) (hgd : ∀ j, j < len → badW (T j) = false) :
    Calls Tryd.prog 17 #[.slice a1 len cap] w fun e w' => e = .returned (.tuple #[.string (S (bigL len 4 ++ bodyL T len)), .int .i64 0]) ∧ Below w.heap.size w w' := by
  have HT : Hid (∀ j, j < len → ((T j).data.size ≤ 9223372036854775807 ∧ w.cell? ⟨sb, so + j * 2, none⟩ = some (.int .i64 (T j).at') ∧ w.cell? ⟨sb, so + j * 2 + 1, none⟩ = some (.string (T j).data))) := fun j hj => by
    rw [ha1 (by omega)] at hT
    exact hT.cells j hj
  have hle : len ≤ 80 := by omega
  have Hgd := Lib.hid hgd
  clear hT h hgd
  by_cases hz : len = 0
  · subst hz
    clear ha1 HT Hgd
    have hcv := fun w => cv_run (S (bigL 0 4)) w
    have hp := fun w => rputBig_any 0 4 w (by omega) (by omega) (by omega)
    have Hp := Lib.hid hp
    clear hp
    go_enter Tryd.func17, Tryd.ntmps17
    go_wp2_with fail
    go_loop [4] (fun i => i = .int .i64 0) (fun _ => 0)
    case atStart => rfl
    case round =>
      subst hrel
      go_wp2_with (first
        | (go_at_call 24; refine (Hp.out _).mono ?_; rintro e w1 ⟨rfl, hb1⟩)
        | fail)
      clear hcv
      have ho := cv_own (S (bigL 0 4)) w1 (by rw [S_size, bigL_length]; omega)
      have hb2 := hb1.trans ((cv_below (S (bigL 0 4)) w1).mono hb1.size)
      have hct := own_text ho
      rw [S_list] at hct
      clear ho hb1
      generalize cvC (S (bigL 0 4)) w1 = cp at *
      generalize cvW (S (bigL 0 4)) w1 = W2 at *
      go_loop [5, 6] (fun b i => i = .int .i64 0 ∧ b = .slice (some ⟨w1.heap.size, 0, none⟩) (S (bigL 0 4)).size cp) (fun _ _ => 0)
      case atStart => exact ⟨rfl, rfl⟩
      case round =>
        obtain ⟨rfl, rfl⟩ := hrel
        go_wp2_with fail
        go_ret2
        refine ⟨?_, hb2⟩
        rw [bodyL, List.append_nil]
        rfl
  obtain rfl := ha1 hz
  clear ha1
  go_enter Tryd.func17, Tryd.ntmps17
  go_wp2_with fail
  go_loop [4] (fun i => ∃ k : Nat, k ≤ len ∧ i = .int .i64 k) (fun i => len - (intOf i).toNat)
  case atStart => exact ⟨0, by omega, rfl⟩
  case round =>
    obtain ⟨k, hk, rfl⟩ := hrel
    by_cases hlt : k < len
    · obtain ⟨hmx, c0, c1⟩ := HT.out k hlt
      obtain ⟨g0, g1, g2⟩ := badW_false (Hgd.out k hlt)
      obtain ⟨x, hx⟩ : ∃ x, x = T k := ⟨_, rfl⟩
      rw [← hx] at c0 c1 g0 g1 g2 hmx
      clear hx
      have g3 : ((x.data.size : Int) != 512) = false := by simp [g2]
      clear g2
      go_wp2_with fail
      go_round
      case rel => exact ⟨k + 1, by omega, by go_num⟩
      case measure => simp [intOf]; omega
    · obtain rfl : k = len := by omega
      have hcv := fun w => cv_run (S (bigL k 4)) w
      have hp := fun w => rputBig_any k 4 w (by omega) (by omega) (by omega)
      have hz4 : (S (bigL k 4)).size = 4 := by rw [S_size, bigL_length]
      rw [hz4] at hcv
      have Hp := Lib.hid hp
      clear hp hz4
      go_wp2_with (first
        | (go_at_call 24; refine (Hp.out _).mono ?_; rintro e w1 ⟨rfl, hb1⟩)
        | fail)
      clear hcv
      have hs4 : (S (bigL k 4)).size = 4 := by rw [S_size, bigL_length]
      have ho := cv_own (S (bigL k 4)) w1 (by omega)
      rw [hs4, S_list] at ho
      have hb2 := hb1.trans ((cv_below (S (bigL k 4)) w1).mono hb1.size)
      have Ho := Lib.hid ho
      have Hb2 := Lib.hid hb2
      have Hw1 := Lib.hid hb1.size
      clear ho hb2 hs4 hb1
      generalize cvC (S (bigL k 4)) w1 = cp at *
      generalize cvW (S (bigL k 4)) w1 = W2 at *
      go_loopw [5, 6] (fun b i wr => ∃ m : Nat, m ≤ k ∧ i = .int .i64 m ∧ Hid (OwnB wr w.heap.size b (bigL k 4 ++ bodyL T m)) ∧ Below w.heap.size w wr) (fun _ i _ => k - (intOf i).toNat)
      case atStart => exact ⟨0, by omega, rfl, by show OwnB _ _ _ _; rw [bodyL, List.append_nil]; exact Ho.out.mono (by have := Hw1.out; omega), Hb2.out⟩
      case round =>
        clear Hb2 Ho Hw1
        obtain ⟨m, hm, rfl, ho, hb⟩ := hrel
        have Hb := Lib.hid hb
        clear hb
        by_cases hlt : m < k
        · obtain ⟨hmx, p0, p1⟩ := HT.out m hlt
          have c0 := (Hb.out.cell (World.block_lt_of_cell? w _ p0)).trans p0
          have c1 := (Hb.out.cell (World.block_lt_of_cell? w _ p1)).trans p1
          have hsbl := World.block_lt_of_cell? wr _ c0
          clear p0 p1
          have hgm := Hgd.out m hlt
          obtain ⟨g0, g1, g2⟩ := badW_false hgm
          have hrec : recL (T m) = bigL (T m).at'.toNat 4 ++ (T m).data.data.toList := rfl
          have hbl := bodyL_length T m (fun j hj => Hgd.out j (by omega))
          obtain ⟨a, ha⟩ : ∃ a : Nat, (T m).at' = (a : Int) := ⟨(T m).at'.toNat, by omega⟩
          obtain ⟨x, hx⟩ : ∃ x, x = (T m).data := ⟨_, rfl⟩
          rw [← hx] at c1 hmx g2 hrec
          rw [ha] at c0 hrec g0 g1
          rw [Int.toNat_natCast] at hrec
          have hp := fun w => rputBig_any a 4 w (by omega) (by omega) (by omega)
          have hbig : (bigL k 4 ++ bodyL T m).length ≤ 50000 := by rw [List.length_append, bigL_length, hbl]; omega
          have hbig2 : (bigL k 4 ++ bodyL T m ++ bigL a 4).length ≤ 50010 := by rw [List.length_append, bigL_length]; omega
          have hx5 : x.size ≤ 512 := by omega
          have ha8 : a < 8192 := by omega
          have Hp := Lib.hid hp
          have Hrec := Lib.hid hrec
          have Hbig := Lib.hid hbig
          have Hbig2 := Lib.hid hbig2
          clear hx ha hgm g0 g1 g2 hp hrec hbl hbig hbig2
          have d0 : wr.drew.cell? ⟨sb, so + m * 2, none⟩ = some (.int .i64 (a : Int)) := c0
          have d1 : wr.drew.cell? ⟨sb, so + m * 2 + 1, none⟩ = some (.string x) := c1
          have hkm : (m : Int) < (k : Int) := by omega
          have hw64 : IntKind.u64.wrap (a : Int) = (a : Int) := by
            have : (a : Int) = ((a % 18446744073709551616 : Nat) : Int) := by rw [Nat.mod_eq_of_lt (by omega)]
            simp only [IntKind.wrap, IntKind.signed, IntKind.bits]
            simp
            omega
          clear c0 c1
          have T1 : Hid (1 = 1) := rfl
          have T2 : Hid (1 = 1) := rfl
          go_wp2_with fail
          have hbd := Hb.out.drew
          have ho0 : Hid (OwnB wr.drew w.heap.size _ (bigL k 4 ++ bodyL T m)) := ho
          clear ho
          have hsb2 : sb < wr.drew.heap.size := hsbl
          have hsw : Hid (sb < w.heap.size) := by
            obtain ⟨_, p0, _⟩ := HT.out m hlt
            exact World.block_lt_of_cell? w _ p0
          clear hsbl
          go_region_held3 (fun wx => wx.cell? ⟨sb, so + m * 2, none⟩ = some (.int .i64 (a : Int)) ∧ wx.cell? ⟨sb, so + m * 2 + 1, none⟩ = some (.string x))
            (first | with_reducible exact ⟨d0, d1⟩ | with_reducible exact ⟨e0, e1⟩ | with_reducible exact ⟨f0, f1⟩ | with_reducible exact ⟨g0, g1⟩ | fail)
            (first
              | (go_at_call 24; refine (Hp.out _).mono ?_; rintro e w4 ⟨rfl, hb4⟩; have e0 := (hb4.cell hsb2).trans d0; have e1 := (hb4.cell hsb2).trans d1; have ho4 := Lib.hid (ho0.out.below hb4); have Hb4 := Lib.hid (hbd.trans (hb4.mono hbd.size)); clear hb4)
              | (have hq := T1; refine step_append_text (by rfl) _ _ (by rfl) w.heap.size _ (bigL k 4 ++ bodyL T m) (by rfl) ho4.out (S (bigL a 4)) (by rfl) (by have := Hbig.out; rw [S_size, bigL_length]; omega) Hb4.out.size ?_; intro v5 w5 ho5 hg5; have Hb5 := Lib.hid (Hb4.out.grown hg5 Hb4.out.size (own_block ho4.out)); have f0 := (grown_cell hg5 ho4.out hsw.out e0); have f1 := (grown_cell hg5 ho4.out hsw.out e1); have Ho5 := Lib.hid ho5; clear ho5 hg5 hq T1)
              | (have hq := T2; refine step_append_text (by rfl) _ _ (by rfl) w.heap.size _ (bigL k 4 ++ bodyL T m ++ bigL a 4) (by rfl) Ho5.out x (by rfl) (by have := Hbig2.out; omega) Hb5.out.size ?_; intro v6 w6 ho6 hg6; have Hb6 := Lib.hid (Hb5.out.grown hg6 Hb5.out.size (own_block Ho5.out)); have g0 := (grown_cell hg6 Ho5.out hsw.out f0); have g1 := (grown_cell hg6 Ho5.out hsw.out f1); have Ho6 := Lib.hid ho6; clear ho6 hg6 hq T2)
              | fail)
          all_goals
            go_wp2_with fail
            go_roundw
            case rel =>
              refine ⟨m + 1, by omega, by go_num, ?_, Hb6.out⟩
              show OwnB _ _ _ _
              rw [bodyL, Hrec.out, ← List.append_assoc, ← List.append_assoc]
              exact Ho6.out
            case measure => simp [intOf]; omega
        · obtain rfl : m = k := by omega
          have hcv := own_text ho.out
          go_wp2_with fail
          go_ret2
          exact ⟨rfl, Hb.out⟩

theorem least_bad (T : Nat → Wr) (len : Nat) (h : ¬ ∀ j, j < len → badW (T j) = false) : ∃ m, m < len ∧ badW (T m) = true ∧ ∀ j, j < m → badW (T j) = false := by
  induction len with
  | zero => exact absurd (fun j hj => by omega) h
  | succ n ih =>
    by_cases hn : ∀ j, j < n → badW (T j) = false
    · refine ⟨n, by omega, ?_, hn⟩
      cases hb : badW (T n)
      · exact absurd (fun j hj => by
          rcases Nat.lt_or_ge j n with h1 | h1
          · exact hn j h1
          · have : j = n := by omega
            rw [this]; exact hb) h
      · rfl
    · obtain ⟨m, h1, h2, h3⟩ := ih hn
      exact ⟨m, by omega, h2, h3⟩
theorem rwrites_any (a1 : Option Addr) (len cap : Nat) (T : Nat → Wr) (w : World) (hl : len ≤ 9223372036854775807) (hT : WrRow w a1 len T) : Calls Tryd.prog 17 #[.slice a1 len cap] w fun e w' => e = wrRes (writesR len T) ∧ Below w.heap.size w w' := by
  by_cases h : 80 < len
  · rw [writesR_many T h]
    exact rwrites_many a1 len cap w h hl
  by_cases hg : ∀ j, j < len → badW (T j) = false
  · rw [writesR_good T h hg]
    by_cases hz : len = 0
    · exact rwrites_good 0 0 len cap a1 T w h (fun h => absurd hz h) hT hg
    · obtain ⟨_, sb, so, ha, _, _⟩ := hT 0 (by omega)
      exact rwrites_good sb so len cap a1 T w h (fun _ => ha) hT hg
  · obtain ⟨m, h1, h2, h3⟩ := least_bad T len hg
    rw [writesR_bad T h h1 h2]
    exact (rwrites_bad a1 len cap m T w h hT h1 h2 h3).mono fun e w' ⟨he, hw⟩ => ⟨he, by rw [← hw]; exact Below.refl _ _⟩
end Go.Proofs.YtgcldacpaommiaaDoor
