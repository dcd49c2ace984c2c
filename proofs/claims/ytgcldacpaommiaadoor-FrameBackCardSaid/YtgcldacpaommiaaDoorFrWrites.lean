/- frames: writes as a text: the plain list, and the program's walk. -/
import Derived.Test.YtgcldacpaommiaaDoorFrBuilder
import Derived.Test.YtgcldacpaommiaaDoorFrPut
import Derived.Test.YtgcldacpaommiaaDoorFrMem
namespace Go.Proofs.YtgcldacpaommiaaDoor
open Go.RowKit Go.Deep

/-- is a write none? -/
def badW (x : Wr) : Bool := decide (x.at' < 0) || decide (8192 ≤ x.at') || decide (x.data.size ≠ 512)
def recL (x : Wr) : List UInt8 := bigL x.at'.toNat 4 ++ x.data.data.toList
def bodyL (T : Nat → Wr) : Nat → List UInt8
  | 0 => []
  | k + 1 => bodyL T k ++ recL (T k)
def anyBad (len : Nat) (T : Nat → Wr) : Bool := (List.range len).any fun i => badW (T i)
/-- the text, and why not. -/
def writesR (len : Nat) (T : Nat → Wr) : ByteArray × Int := if 80 < len then (⟨#[]⟩, 3) else if anyBad len T then (⟨#[]⟩, 40) else (S (bigL len 4 ++ bodyL T len), 0)
theorem writesR_many {len : Nat} (T : Nat → Wr) (h : 80 < len) : writesR len T = (⟨#[]⟩, 3) := by unfold writesR; rw [if_pos h]
theorem writesR_bad {len k : Nat} (T : Nat → Wr) (h : ¬ 80 < len) (hk : k < len) (hb : badW (T k) = true) : writesR len T = (⟨#[]⟩, 40) := by
  unfold writesR
  rw [if_neg h, if_pos]
  exact List.any_eq_true.2 ⟨k, List.mem_range.2 hk, hb⟩
theorem writesR_good {len : Nat} (T : Nat → Wr) (h : ¬ 80 < len) (hb : ∀ j, j < len → badW (T j) = false) : writesR len T = (S (bigL len 4 ++ bodyL T len), 0) := by
  unfold writesR
  rw [if_neg h, if_neg]
  intro ha
  obtain ⟨j, h1, h2⟩ := List.any_eq_true.1 ha
  rw [hb j (List.mem_range.1 h1)] at h2
  cases h2
theorem badW_false {x : Wr} (h : badW x = false) : 0 ≤ x.at' ∧ x.at' < 8192 ∧ x.data.size = 512 := by
  simp [badW] at h
  omega
theorem badW_true {x : Wr} (h : badW x = true) : x.at' < 0 ∨ 8192 ≤ x.at' ∨ x.data.size ≠ 512 := by
  simp [badW] at h
  omega
theorem recL_length {x : Wr} (h : badW x = false) : (recL x).length = 516 := by
  have := (badW_false h).2.2
  simp [recL, bigL_length, this]
theorem bodyL_length (T : Nat → Wr) (k : Nat) (h : ∀ j, j < k → badW (T j) = false) : (bodyL T k).length = k * 516 := by
  induction k with
  | zero => rfl
  | succ k ih =>
    rw [bodyL, List.length_append, ih (fun j hj => h j (by omega)), recL_length (h k (by omega))]
    omega

def wrRes (r : ByteArray × Int) : Ending := .returned (.tuple #[.string r.1, .int .i64 r.2])

set_option maxHeartbeats 2000000 in
set_option maxRecDepth 100000 in
theorem writes_many (a1 : Option Addr) (len cap : Nat) (w : World) (h : 80 < len) (hl : len ≤ 9223372036854775807) : Calls Tryd.prog 16 #[.slice a1 len cap] w fun e w' => e = .returned (.tuple #[.string ⟨#[]⟩, .int .i64 3]) ∧ Below w.heap.size w w' := by
  go_enter Tryd.func16, Tryd.ntmps16
  go_wp2_with fail
  go_ret2
  exact ⟨rfl, Below.refl _ _⟩

set_option maxHeartbeats 4000000 in
set_option maxRecDepth 100000 in
theorem writes_few (a1 : Option Addr) (len cap : Nat) (T : Nat → Wr) (w : World) (h : ¬ 80 < len) (hT : WrRow w a1 len T) : Calls Tryd.prog 16 #[.slice a1 len cap] w fun e w' => e = wrRes (writesR len T) ∧ Below w.heap.size w w' := by
  have HT := Lib.hid hT
  have hle : len ≤ 80 := by omega
  have Hh := Lib.hid h
  clear hT h
  unfold wrRes
  have b0 : Below w.heap.size w (w.alloc (.cells #[.pointer none, .slice none 0 0] 68)) := (Below.refl _ w).alloc (Nat.le_refl _) _
  have B0 := Lib.hid b0
  clear b0
  go_enter Tryd.func16, Tryd.ntmps16
  go_wp2_with (first
    | (go_at_call 21; refine (putBig_any len 4 _ (by omega) (by omega)).mono ?_; rintro e w1 ⟨rfl, hb1⟩; have hi1 := (builder_new w).below hb1; have Hb1 := Lib.hid (B0.out.trans (hb1.mono B0.out.size)); clear hb1)
    | (go_at_call 30; refine (writeString_any w.heap.size w.heap.size [] _ _ hi1 (by rw [S_size, bigL_length]; decide) Hb1.out.size).mono ?_; rintro e w2 ⟨rfl, hi2, hb2, _⟩; have Hb2 := Lib.hid (Hb1.out.trans hb2); clear hb2 Hb1 hi1)
    | fail)
  have hi3 : IsB w.heap.size w.heap.size (bigL len 4) w2 := hi2
  have Hi3 := Lib.hid hi3
  clear hi2 hi3
  go_loopw [17] (fun i wr => ∃ k : Nat, k ≤ len ∧ i = .int .i64 k ∧ (∀ j, j < k → badW (T j) = false) ∧ Hid (IsB w.heap.size w.heap.size (bigL len 4 ++ bodyL T k) wr) ∧ Below w.heap.size w wr) (fun i _ => len - (intOf i).toNat)
  case atStart => exact ⟨0, by omega, rfl, fun j hj => by omega, by show IsB _ _ _ _; rw [bodyL, List.append_nil]; exact Hi3.out, Hb2.out⟩
  case round =>
    clear Hb2 Hi3
    obtain ⟨k, hk, rfl, hgood, hib, hb⟩ := hrel
    have Hgood := Lib.hid hgood
    have Hb := Lib.hid hb
    clear hgood hb
    by_cases hlt : k < len
    · obtain ⟨⟨_, hmx⟩, sb, so, rfl, c0, c1⟩ := (HT.out.below Hb.out) k hlt
      unfold maxLen at hmx
      have hlt1 := World.block_lt_of_cell? wr _ c0
      have hne1 : sb ≠ wr.heap.size := Nat.ne_of_lt hlt1
      by_cases hbad : badW (T k) = true
      · have hres : writesR len T = (⟨#[]⟩, 40) := writesR_bad T Hh.out hlt hbad
        have Hres := Lib.hid hres
        have hcase := badW_true hbad
        clear hbad hres
        obtain ⟨x, hx⟩ : ∃ x, x = T k := ⟨_, rfl⟩
        rw [← hx] at c0 c1 hcase hmx
        clear hx
        by_cases g0 : x.at' < 0
        · clear hcase
          go_wp2_with fail
          refine bodyPost_ret (v := .tuple #[.string ⟨#[]⟩, .int .i64 40]) (by simp [results, Tryd.results16, go_sem]) rfl ⟨by rw [Hres.out], Hb.out.alloc Hb.out.size _⟩
        by_cases g1 : 8192 ≤ x.at'
        · clear hcase
          go_wp2_with fail
          refine bodyPost_ret (v := .tuple #[.string ⟨#[]⟩, .int .i64 40]) (by simp [results, Tryd.results16, go_sem]) rfl ⟨by rw [Hres.out], Hb.out.alloc Hb.out.size _⟩
        have g2 : ((x.data.size : Int) != 512) = true := by simp; omega
        · clear hcase
          go_wp2_with fail
          refine bodyPost_ret (v := .tuple #[.string ⟨#[]⟩, .int .i64 40]) (by simp [results, Tryd.results16, go_sem]) rfl ⟨by rw [Hres.out], Hb.out.alloc Hb.out.size _⟩
      · have hgd : badW (T k) = false := by simpa using hbad
        obtain ⟨g0, g1, g2⟩ := badW_false hgd
        have Hgd := Lib.hid hgd
        clear hbad hgd
        have hrec : recL (T k) = bigL (T k).at'.toNat 4 ++ (T k).data.data.toList := rfl
        have hbl := bodyL_length T k Hgood.out
        have hsz := data_len (T k).data
        obtain ⟨a, ha⟩ : ∃ a : Nat, (T k).at' = (a : Int) := ⟨(T k).at'.toNat, by omega⟩
        obtain ⟨x, hx⟩ : ∃ x, x = (T k).data := ⟨_, rfl⟩
        rw [← hx] at c1 hmx g2 hrec hsz
        rw [ha] at c0 hrec g0 g1
        rw [Int.toNat_natCast] at hrec
        clear hx ha
        have g3 : ((x.size : Int) != 512) = false := by simp [g2]
        have ha8 : a < 8192 := by omega
        have Hrec := Lib.hid hrec
        have Hbl := Lib.hid hbl
        have Hsz := Lib.hid hsz
        have hg2' : x.size ≤ 512 := by omega
        have Hib := Lib.hid (hib.out.below ((Below.refl wr.heap.size wr).alloc (Nat.le_refl _) (.cells #[.int .i64 (a : Int), .string x] 46)))
        have Hb3 := Lib.hid (Hb.out.alloc Hb.out.size (.cells #[.int .i64 (a : Int), .string x] 46))
        have hmb : wr.heap.size ≠ w.heap.size := by
          have : w.heap.size < wr.heap.size := by
            rcases hib.out with h | h
            · exact h.lt
            · exact h.lt
          omega
        clear hib hrec hbl hsz g0 g1 g2
        have T1 : Hid (1 = 1) := rfl
        have T2 : Hid (1 = 1) := rfl
        have hblk : (wr.alloc (.cells #[.int .i64 (a : Int), .string x] 46)).heap[wr.heap.size]? = some (.cells #[.int .i64 (a : Int), .string x] 46 (0, 0)) := by
          show (wr.heap.push _)[wr.heap.size]? = _
          simp
        have Hblk := Lib.hid hblk
        clear hblk
        go_wp2_with (first
          | (go_at_call 21; refine (putBig_any a 4 _ (by omega) (by omega)).mono ?_; rintro e w3 ⟨rfl, hb3⟩; have Hi3 := Lib.hid (Hib.out.below hb3); have Hb4 := Lib.hid (Hb3.out.trans (hb3.mono Hb3.out.size)); have Hbk3 := Lib.hid ((hb3.block wr.heap.size (by simp)).trans Hblk.out); clear hb3 Hb3 Hib Hblk)
          | (go_at_call 30; have hq := T1; refine (writeString_any w.heap.size w.heap.size _ (S (bigL a 4)) _ Hi3.out (by rw [S_size, bigL_length, List.length_append, bigL_length, Hbl.out]; omega) Hb4.out.size).mono ?_; rintro e w4 ⟨rfl, hi4, hb4, hk4⟩; have Hi4 := Lib.hid hi4; have Hb5 := Lib.hid (Hb4.out.trans hb4); have d1 : w4.cell? ⟨wr.heap.size, 1, none⟩ = some (.string x) := Lib.cell_of_heap ((hk4 _ _ _ _ hmb Hbk3.out (by decide)).trans Hbk3.out) 1; clear hi4 hb4 hk4 Hbk3 Hi3 Hb4 T1 hq)
          | (go_at_call 30; have hq := T2; refine (writeString_any w.heap.size w.heap.size _ x _ Hi4.out (by rw [S_list, List.length_append, List.length_append, bigL_length, bigL_length, Hbl.out]; omega) Hb5.out.size).mono ?_; rintro e w6 ⟨rfl, hi6, hb6, _⟩; have Hi6 := Lib.hid hi6; have Hb6 := Lib.hid (Hb5.out.trans hb6); clear hi6 hb6 Hi4 Hb5 T2 hq)
          | fail)
        go_roundw
        case rel =>
          refine ⟨k + 1, by omega, by go_num, ?_, ?_, Hb6.out⟩
          · intro j hj
            by_cases e : j = k
            · rw [e]; exact Hgd.out
            · exact Hgood.out j (by omega)
          · show IsB _ _ _ _
            have h6 := Hi6.out
            rw [S_list] at h6
            rw [bodyL, Hrec.out, ← List.append_assoc, ← List.append_assoc]
            exact h6
        case measure => simp [intOf]; omega
    · obtain rfl : k = len := by omega
      have hres := writesR_good T Hh.out Hgood.out
      have Hres := Lib.hid hres
      clear hres
      go_wp2_with (first
        | (go_at_call 31; refine (string_any w.heap.size w.heap.size _ _ hib.out Hb.out.size).mono ?_; rintro e w7 ⟨rfl, hb7⟩)
        | fail)
      go_ret2
      exact ⟨by rw [Hres.out]; rfl, Hb.out.trans hb7⟩
theorem writes_any (a1 : Option Addr) (len cap : Nat) (T : Nat → Wr) (w : World) (hl : len ≤ 9223372036854775807) (hT : WrRow w a1 len T) : Calls Tryd.prog 16 #[.slice a1 len cap] w fun e w' => e = wrRes (writesR len T) ∧ Below w.heap.size w w' := by
  by_cases h : 80 < len
  · rw [writesR_many T h]
    exact writes_many a1 len cap w h hl
  · exact writes_few a1 len cap T w h hT
end Go.Proofs.YtgcldacpaommiaaDoor
