/- frames: the reference's Get: more ways. PRINTED by gen_rget.py -/
import Derived.Test.YtgcldacpaommiaaDoorFrRefGet
import Derived.Deep.RegionHeld3
namespace Go.Proofs.YtgcldacpaommiaaDoor
open Go.RowKit Go.Deep

theorem zero_at (s : ByteArray) (a m : Nat) (h : allz (sub s a m) = true) (hm : a + m ≤ s.size) (i : Nat) (h1 : a ≤ i) (h2 : i < a + m) : ∀ hh : i < s.size, (s[i]'hh).toNat = 0 := fun hh => by
  have hmem : s[i]'hh ∈ sub s a m := by
    unfold sub
    refine List.mem_iff_getElem.2 ⟨i - a, by rw [List.length_take, List.length_drop, data_len]; omega, ?_⟩
    rw [List.getElem_take, List.getElem_drop]
    have e : a + (i - a) = i := by omega
    simp only [e]
    rfl
  have hz := List.all_eq_true.1 h _ hmem
  simp at hz
  rw [hz]
  rfl

set_option maxHeartbeats 4000000 in
set_option maxRecDepth 100000 in
theorem rget_D (s : ByteArray) (w : World) (hs : s.size ≤ 1000000) (hA : 20 ≤ s.size) (cB : eqB (s.extract 0 4) mark = true) (cC : eqB (s.extract 16 20) (dig (s.extract 0 16)) = true) (hD : 65536 < bigN (sub s 12 4)) : Calls Tryd.prog 15 #[.string s] w fun e w' => e = tellV 0 ⟨#[]⟩ 0 50 ∧ Below w.heap.size w w' := by
  unfold tellV
  have hm : mark.toList = [72, 71, 70, 82] := by rw [ByteArray.toList_eq]; rfl
  rw [← eqB_toList, hm] at cB
  clear hm
  have hr1 := fun w => rdigest_any (s.extract 0 16) w (by rw [ByteArray.size_extract]; omega)
  have cC2 : eqB (s.extract 16 20) (S (digest (s.extract 0 16).data.toList)) = _ := cC
  rw [← eqB_toList] at cC2
  generalize S (digest (s.extract 0 16).data.toList) = d1 at *
  have Hr1 := Lib.hid hr1
  clear hr1 cC
  have hb1 := fun w => rbig_any s 4 8 w hs (by omega) (by omega) (by omega)
  have hb2 := fun w => rbig_any s 12 4 w hs (by omega) (by omega) (by omega)
  have hl32 := bigN_lt64 (sub s 12 4) (by rw [sub_length _ _ _ (by omega)]; omega)
  generalize bigN (sub s 4 8) = n at *
  generalize bigN (sub s 12 4) = l at *
  have dD : decide (65536 < (l : Int)) = true := by simp; omega
  have Hb1 := Lib.hid hb1
  have Hb2 := Lib.hid hb2
  clear hb1 hb2
  have Tok : Hid (1 = 1) := rfl
  have i16 : (16 : Int) ≤ (s.size : Int) := by omega
  have i20 : (20 : Int) ≤ (s.size : Int) := by omega
  go_enter Tryd.func15, Tryd.ntmps15
  go_wp2_with fail
  have h3 := three_new w 34 (.int .u64 0) (.string ⟨#[]⟩) (.int .i64 0)
  have Hbel := Lib.hid ((Below.refl w.heap.size w).alloc (Nat.le_refl _) (.cells #[.int .u64 0, .string ⟨#[]⟩, .int .i64 0] 34))
  have hlt : w.heap.size < (w.alloc (.cells #[.int .u64 0, .string ⟨#[]⟩, .int .i64 0] 34)).heap.size := by simp
  generalize w.alloc (.cells #[.int .u64 0, .string ⟨#[]⟩, .int .i64 0] 34) = W at *
  have hw3 : Three W.drew w.heap.size (.int .u64 0) (.string ⟨#[]⟩) (.int .i64 0) := ⟨h3.c0, h3.c1, h3.c2, h3.f0, h3.f1, h3.f2⟩
  have hwb : Below w.heap.size w W.drew := Hbel.out.drew
  have hlt2 : w.heap.size < W.drew.heap.size := hlt
  clear h3 Hbel
  go_region_held3 (fun wx => Three wx w.heap.size (.int .u64 0) (.string ⟨#[]⟩) (.int .i64 0) ∧ Below w.heap.size w wx)
    (first | with_reducible exact ⟨hw3, hwb⟩ | with_reducible exact ⟨hd3, hdb⟩ | fail)
    (first | (go_at_call 26; refine (Hr1.out _).mono ?_; rintro e w2 ⟨rfl, hb2⟩; have hd3 := three_below hw3 hlt2 hb2; have hdb := hwb.trans (hb2.mono hwb.size); have hlt3 : w.heap.size < w2.heap.size := Nat.lt_of_lt_of_le hlt2 hb2.size) | fail)
  have c0 := hd3.c0
  have c1 := hd3.c1
  have c2 := hd3.c2
  have f0 := hd3.f0
  have f1 := hd3.f1
  have f2 := hd3.f2
  clear hd3 hw3
  go_wp2_with (first
    | (go_at_call 29; have hq0 := Tok; refine (Hb1.out _).mono ?_; rintro e wd ⟨rfl, rfl⟩; clear hq0 Tok)
    | (go_at_call 29; refine (Hb2.out _).mono ?_; rintro e we ⟨rfl, rfl⟩)
    | fail)
  have k3 := three_set ⟨c0, c1, c2, f0, f1, f2⟩ (.int .u64 0) (.string ⟨#[]⟩) (.int .i64 0)
  have kb := ((hdb.setCell (p := ⟨w.heap.size, 0, none⟩) (Nat.le_refl _) (.int .u64 0)).setCell (p := ⟨w.heap.size, 1, none⟩) (Nat.le_refl _) (.string ⟨#[]⟩)).setCell (p := ⟨w.heap.size, 2, none⟩) (Nat.le_refl _) (.int .i64 0)
  refine ⟨rfl, .tuple #[.agg #[.int .u64 0, .string ⟨#[]⟩, .int .i64 0], .int .i64 50], ?_, rfl, kb⟩
  simp [results, Tryd.results15, go_sem, k3.c0, k3.c1, k3.c2]

set_option maxHeartbeats 4000000 in
set_option maxRecDepth 100000 in
theorem rget_E (s : ByteArray) (w : World) (hs : s.size ≤ 1000000) (hA : 20 ≤ s.size) (cB : eqB (s.extract 0 4) mark = true) (cC : eqB (s.extract 16 20) (dig (s.extract 0 16)) = true) (hD : bigN (sub s 12 4) ≤ 65536) (hE : s.size < secs (bigN (sub s 12 4)) * 512) : Calls Tryd.prog 15 #[.string s] w fun e w' => e = tellV 0 ⟨#[]⟩ 0 50 ∧ Below w.heap.size w w' := by
  unfold tellV
  have hm : mark.toList = [72, 71, 70, 82] := by rw [ByteArray.toList_eq]; rfl
  rw [← eqB_toList, hm] at cB
  clear hm
  have hr1 := fun w => rdigest_any (s.extract 0 16) w (by rw [ByteArray.size_extract]; omega)
  have cC2 : eqB (s.extract 16 20) (S (digest (s.extract 0 16).data.toList)) = _ := cC
  rw [← eqB_toList] at cC2
  generalize S (digest (s.extract 0 16).data.toList) = d1 at *
  have Hr1 := Lib.hid hr1
  clear hr1 cC
  have hb1 := fun w => rbig_any s 4 8 w hs (by omega) (by omega) (by omega)
  have hb2 := fun w => rbig_any s 12 4 w hs (by omega) (by omega) (by omega)
  have hl32 := bigN_lt64 (sub s 12 4) (by rw [sub_length _ _ _ (by omega)]; omega)
  generalize bigN (sub s 4 8) = n at *
  generalize bigN (sub s 12 4) = l at *
  have dD : decide (65536 < (l : Int)) = false := by simp; omega
  have Hb1 := Lib.hid hb1
  have Hb2 := Lib.hid hb2
  clear hb1 hb2
  have hsec := fun w => rsectors_any (l : Int) w
  rw [secs_eq l hD] at hsec
  have hq := secs_le l hD
  generalize secs l = q at *
  have Hsec := Lib.hid hsec
  clear hsec
  have dE : decide ((s.size : Int) < 512 * (q : Int)) = true := by simp; omega
  have Tok : Hid (1 = 1) := rfl
  have i16 : (16 : Int) ≤ (s.size : Int) := by omega
  have i20 : (20 : Int) ≤ (s.size : Int) := by omega
  go_enter Tryd.func15, Tryd.ntmps15
  go_wp2_with fail
  have h3 := three_new w 34 (.int .u64 0) (.string ⟨#[]⟩) (.int .i64 0)
  have Hbel := Lib.hid ((Below.refl w.heap.size w).alloc (Nat.le_refl _) (.cells #[.int .u64 0, .string ⟨#[]⟩, .int .i64 0] 34))
  have hlt : w.heap.size < (w.alloc (.cells #[.int .u64 0, .string ⟨#[]⟩, .int .i64 0] 34)).heap.size := by simp
  generalize w.alloc (.cells #[.int .u64 0, .string ⟨#[]⟩, .int .i64 0] 34) = W at *
  have hw3 : Three W.drew w.heap.size (.int .u64 0) (.string ⟨#[]⟩) (.int .i64 0) := ⟨h3.c0, h3.c1, h3.c2, h3.f0, h3.f1, h3.f2⟩
  have hwb : Below w.heap.size w W.drew := Hbel.out.drew
  have hlt2 : w.heap.size < W.drew.heap.size := hlt
  clear h3 Hbel
  go_region_held3 (fun wx => Three wx w.heap.size (.int .u64 0) (.string ⟨#[]⟩) (.int .i64 0) ∧ Below w.heap.size w wx)
    (first | with_reducible exact ⟨hw3, hwb⟩ | with_reducible exact ⟨hd3, hdb⟩ | fail)
    (first | (go_at_call 26; refine (Hr1.out _).mono ?_; rintro e w2 ⟨rfl, hb2⟩; have hd3 := three_below hw3 hlt2 hb2; have hdb := hwb.trans (hb2.mono hwb.size); have hlt3 : w.heap.size < w2.heap.size := Nat.lt_of_lt_of_le hlt2 hb2.size) | fail)
  have c0 := hd3.c0
  have c1 := hd3.c1
  have c2 := hd3.c2
  have f0 := hd3.f0
  have f1 := hd3.f1
  have f2 := hd3.f2
  clear hd3 hw3
  go_wp2_with (first
    | (go_at_call 29; have hq0 := Tok; refine (Hb1.out _).mono ?_; rintro e wd ⟨rfl, rfl⟩; clear hq0 Tok)
    | (go_at_call 29; refine (Hb2.out _).mono ?_; rintro e we ⟨rfl, rfl⟩)
    | (go_at_call 13; refine (Hsec.out _).mono ?_; rintro e wf ⟨rfl, rfl⟩)
    | fail)
  have k3 := three_set ⟨c0, c1, c2, f0, f1, f2⟩ (.int .u64 0) (.string ⟨#[]⟩) (.int .i64 0)
  have kb := ((hdb.setCell (p := ⟨w.heap.size, 0, none⟩) (Nat.le_refl _) (.int .u64 0)).setCell (p := ⟨w.heap.size, 1, none⟩) (Nat.le_refl _) (.string ⟨#[]⟩)).setCell (p := ⟨w.heap.size, 2, none⟩) (Nat.le_refl _) (.int .i64 0)
  refine ⟨rfl, .tuple #[.agg #[.int .u64 0, .string ⟨#[]⟩, .int .i64 0], .int .i64 50], ?_, rfl, kb⟩
  simp [results, Tryd.results15, go_sem, k3.c0, k3.c1, k3.c2]

set_option maxHeartbeats 4000000 in
set_option maxRecDepth 100000 in
theorem rget_F (s : ByteArray) (w : World) (hs : s.size ≤ 1000000) (hA : 20 ≤ s.size) (cB : eqB (s.extract 0 4) mark = true) (cC : eqB (s.extract 16 20) (dig (s.extract 0 16)) = true) (hD : bigN (sub s 12 4) ≤ 65536) (hE : secs (bigN (sub s 12 4)) * 512 ≤ s.size) (cF : eqB (s.extract (20 + bigN (sub s 12 4)) (24 + bigN (sub s 12 4))) (dig (s.extract 20 (20 + bigN (sub s 12 4)))) = false) : Calls Tryd.prog 15 #[.string s] w fun e w' => e = tellV 0 ⟨#[]⟩ 0 51 ∧ Below w.heap.size w w' := by
  unfold tellV
  have hm : mark.toList = [72, 71, 70, 82] := by rw [ByteArray.toList_eq]; rfl
  rw [← eqB_toList, hm] at cB
  clear hm
  have hr1 := fun w => rdigest_any (s.extract 0 16) w (by rw [ByteArray.size_extract]; omega)
  have cC2 : eqB (s.extract 16 20) (S (digest (s.extract 0 16).data.toList)) = _ := cC
  rw [← eqB_toList] at cC2
  generalize S (digest (s.extract 0 16).data.toList) = d1 at *
  have Hr1 := Lib.hid hr1
  clear hr1 cC
  have hb1 := fun w => rbig_any s 4 8 w hs (by omega) (by omega) (by omega)
  have hb2 := fun w => rbig_any s 12 4 w hs (by omega) (by omega) (by omega)
  have hl32 := bigN_lt64 (sub s 12 4) (by rw [sub_length _ _ _ (by omega)]; omega)
  generalize bigN (sub s 4 8) = n at *
  generalize bigN (sub s 12 4) = l at *
  have dD : decide (65536 < (l : Int)) = false := by simp; omega
  have Hb1 := Lib.hid hb1
  have Hb2 := Lib.hid hb2
  clear hb1 hb2
  have hsec := fun w => rsectors_any (l : Int) w
  rw [secs_eq l hD] at hsec
  have hq := secs_le l hD
  generalize secs l = q at *
  have Hsec := Lib.hid hsec
  clear hsec
  have dE : decide ((s.size : Int) < 512 * (q : Int)) = false := by simp; omega
  have hr2 := fun w => rdigest_any (s.extract 20 (20 + l)) w (by rw [ByteArray.size_extract]; omega)
  rw [show 24 + l = 20 + l + 4 by omega] at cF
  have cF2 : eqB (s.extract (20 + l) (20 + l + 4)) (S (digest (s.extract 20 (20 + l)).data.toList)) = _ := cF
  rw [← eqB_toList] at cF2
  generalize S (digest (s.extract 20 (20 + l)).data.toList) = d2 at *
  have Hr2 := Lib.hid hr2
  clear hr2 cF
  have j1 : (20 : Int) ≤ 20 + l := by omega
  have j2 : (20 : Int) + l ≤ s.size := by omega
  have j3 : (20 : Int) + l + 4 ≤ s.size := by omega
  have j4 : (20 : Int) + l ≤ 20 + l + 4 := by omega
  have j5 : (0 : Int) ≤ 20 + l := by omega
  have j6 : (0 : Int) ≤ 20 + l + 4 := by omega
  have j7 : ((20 : Int) + l).toNat = 20 + l := by omega
  have j8 : ((20 : Int) + l + 4).toNat = 20 + l + 4 := by omega
  have j9 : (0 : Int) ≤ l := by omega
  have jw : IntKind.i64.wrap ((20 : Int) + l + 4) = 20 + l + 4 := by simp only [IntKind.wrap_i64]; omega
  have Tok : Hid (1 = 1) := rfl
  have i16 : (16 : Int) ≤ (s.size : Int) := by omega
  have i20 : (20 : Int) ≤ (s.size : Int) := by omega
  go_enter Tryd.func15, Tryd.ntmps15
  go_wp2_with fail
  have h3 := three_new w 34 (.int .u64 0) (.string ⟨#[]⟩) (.int .i64 0)
  have Hbel := Lib.hid ((Below.refl w.heap.size w).alloc (Nat.le_refl _) (.cells #[.int .u64 0, .string ⟨#[]⟩, .int .i64 0] 34))
  have hlt : w.heap.size < (w.alloc (.cells #[.int .u64 0, .string ⟨#[]⟩, .int .i64 0] 34)).heap.size := by simp
  generalize w.alloc (.cells #[.int .u64 0, .string ⟨#[]⟩, .int .i64 0] 34) = W at *
  have hw3 : Three W.drew w.heap.size (.int .u64 0) (.string ⟨#[]⟩) (.int .i64 0) := ⟨h3.c0, h3.c1, h3.c2, h3.f0, h3.f1, h3.f2⟩
  have hwb : Below w.heap.size w W.drew := Hbel.out.drew
  have hlt2 : w.heap.size < W.drew.heap.size := hlt
  clear h3 Hbel
  go_region_held3 (fun wx => Three wx w.heap.size (.int .u64 0) (.string ⟨#[]⟩) (.int .i64 0) ∧ Below w.heap.size w wx)
    (first | with_reducible exact ⟨hw3, hwb⟩ | with_reducible exact ⟨hd3, hdb⟩ | fail)
    (first | (go_at_call 26; refine (Hr1.out _).mono ?_; rintro e w2 ⟨rfl, hb2⟩; have hd3 := three_below hw3 hlt2 hb2; have hdb := hwb.trans (hb2.mono hwb.size); have hlt3 : w.heap.size < w2.heap.size := Nat.lt_of_lt_of_le hlt2 hb2.size) | fail)
  have c0 := hd3.c0
  have c1 := hd3.c1
  have c2 := hd3.c2
  have f0 := hd3.f0
  have f1 := hd3.f1
  have f2 := hd3.f2
  clear hd3 hw3
  go_wp2_with (first
    | (go_at_call 29; have hq0 := Tok; refine (Hb1.out _).mono ?_; rintro e wd ⟨rfl, rfl⟩; clear hq0 Tok)
    | (go_at_call 29; refine (Hb2.out _).mono ?_; rintro e we ⟨rfl, rfl⟩)
    | (go_at_call 13; refine (Hsec.out _).mono ?_; rintro e wf ⟨rfl, rfl⟩)
    | fail)
  have hv3 : Three w2.drew w.heap.size (.int .u64 0) (.string ⟨#[]⟩) (.int .i64 0) := ⟨c0, c1, c2, f0, f1, f2⟩
  have hvb : Below w.heap.size w w2.drew := hdb.drew
  have hlt4 : w.heap.size < w2.drew.heap.size := hlt3
  clear c0 c1 c2 f0 f1 f2
  go_region_held3 (fun wx => Three wx w.heap.size (.int .u64 0) (.string ⟨#[]⟩) (.int .i64 0) ∧ Below w.heap.size w wx)
    (first | with_reducible exact ⟨hv3, hvb⟩ | with_reducible exact ⟨hg3, hgb⟩ | fail)
    (first | (go_at_call 26; refine (Hr2.out _).mono ?_; rintro e w5 ⟨rfl, hb5⟩; have hg3 := three_below hv3 hlt4 hb5; have hgb := hvb.trans (hb5.mono hvb.size)) | fail)
  have c0 := hg3.c0
  have c1 := hg3.c1
  have c2 := hg3.c2
  have f0 := hg3.f0
  have f1 := hg3.f1
  have f2 := hg3.f2
  clear hg3 hv3
  go_wp2_with (first
    | (go_at_call 13; refine (Hsec.out _).mono ?_; rintro e wf ⟨rfl, rfl⟩)
    | fail)
  have k3 := three_set ⟨c0, c1, c2, f0, f1, f2⟩ (.int .u64 0) (.string ⟨#[]⟩) (.int .i64 0)
  have kb := ((hgb.setCell (p := ⟨w.heap.size, 0, none⟩) (Nat.le_refl _) (.int .u64 0)).setCell (p := ⟨w.heap.size, 1, none⟩) (Nat.le_refl _) (.string ⟨#[]⟩)).setCell (p := ⟨w.heap.size, 2, none⟩) (Nat.le_refl _) (.int .i64 0)
  refine ⟨rfl, .tuple #[.agg #[.int .u64 0, .string ⟨#[]⟩, .int .i64 0], .int .i64 51], ?_, rfl, kb⟩
  simp [results, Tryd.results15, go_sem, k3.c0, k3.c1, k3.c2]

set_option maxHeartbeats 4000000 in
set_option maxRecDepth 100000 in
theorem rget_G (s : ByteArray) (w : World) (hs : s.size ≤ 1000000) (hA : 20 ≤ s.size) (cB : eqB (s.extract 0 4) mark = true) (cC : eqB (s.extract 16 20) (dig (s.extract 0 16)) = true) (hD : bigN (sub s 12 4) ≤ 65536) (hE : secs (bigN (sub s 12 4)) * 512 ≤ s.size) (cF : eqB (s.extract (20 + bigN (sub s 12 4)) (24 + bigN (sub s 12 4))) (dig (s.extract 20 (20 + bigN (sub s 12 4)))) = true) (cG : allz (s.extract (24 + bigN (sub s 12 4)) (secs (bigN (sub s 12 4)) * 512)).data.toList = false) : Calls Tryd.prog 15 #[.string s] w fun e w' => e = tellV 0 ⟨#[]⟩ 0 50 ∧ Below w.heap.size w w' := by
  unfold tellV
  have hm : mark.toList = [72, 71, 70, 82] := by rw [ByteArray.toList_eq]; rfl
  rw [← eqB_toList, hm] at cB
  clear hm
  have hr1 := fun w => rdigest_any (s.extract 0 16) w (by rw [ByteArray.size_extract]; omega)
  have cC2 : eqB (s.extract 16 20) (S (digest (s.extract 0 16).data.toList)) = _ := cC
  rw [← eqB_toList] at cC2
  generalize S (digest (s.extract 0 16).data.toList) = d1 at *
  have Hr1 := Lib.hid hr1
  clear hr1 cC
  have hb1 := fun w => rbig_any s 4 8 w hs (by omega) (by omega) (by omega)
  have hb2 := fun w => rbig_any s 12 4 w hs (by omega) (by omega) (by omega)
  have hl32 := bigN_lt64 (sub s 12 4) (by rw [sub_length _ _ _ (by omega)]; omega)
  generalize bigN (sub s 4 8) = n at *
  generalize bigN (sub s 12 4) = l at *
  have dD : decide (65536 < (l : Int)) = false := by simp; omega
  have Hb1 := Lib.hid hb1
  have Hb2 := Lib.hid hb2
  clear hb1 hb2
  have hsec := fun w => rsectors_any (l : Int) w
  rw [secs_eq l hD] at hsec
  have hq := secs_le l hD
  generalize secs l = q at *
  have Hsec := Lib.hid hsec
  clear hsec
  have dE : decide ((s.size : Int) < 512 * (q : Int)) = false := by simp; omega
  have hr2 := fun w => rdigest_any (s.extract 20 (20 + l)) w (by rw [ByteArray.size_extract]; omega)
  rw [show 24 + l = 20 + l + 4 by omega] at cF
  have cF2 : eqB (s.extract (20 + l) (20 + l + 4)) (S (digest (s.extract 20 (20 + l)).data.toList)) = _ := cF
  rw [← eqB_toList] at cF2
  generalize S (digest (s.extract 20 (20 + l)).data.toList) = d2 at *
  have Hr2 := Lib.hid hr2
  clear hr2 cF
  have j1 : (20 : Int) ≤ 20 + l := by omega
  have j2 : (20 : Int) + l ≤ s.size := by omega
  have j3 : (20 : Int) + l + 4 ≤ s.size := by omega
  have j4 : (20 : Int) + l ≤ 20 + l + 4 := by omega
  have j5 : (0 : Int) ≤ 20 + l := by omega
  have j6 : (0 : Int) ≤ 20 + l + 4 := by omega
  have j7 : ((20 : Int) + l).toNat = 20 + l := by omega
  have j8 : ((20 : Int) + l + 4).toNat = 20 + l + 4 := by omega
  have j9 : (0 : Int) ≤ l := by omega
  have jw : IntKind.i64.wrap ((20 : Int) + l + 4) = 20 + l + 4 := by simp only [IntKind.wrap_i64]; omega
  have Tok : Hid (1 = 1) := rfl
  have i16 : (16 : Int) ≤ (s.size : Int) := by omega
  have i20 : (20 : Int) ≤ (s.size : Int) := by omega
  go_enter Tryd.func15, Tryd.ntmps15
  go_wp2_with fail
  have h3 := three_new w 34 (.int .u64 0) (.string ⟨#[]⟩) (.int .i64 0)
  have Hbel := Lib.hid ((Below.refl w.heap.size w).alloc (Nat.le_refl _) (.cells #[.int .u64 0, .string ⟨#[]⟩, .int .i64 0] 34))
  have hlt : w.heap.size < (w.alloc (.cells #[.int .u64 0, .string ⟨#[]⟩, .int .i64 0] 34)).heap.size := by simp
  generalize w.alloc (.cells #[.int .u64 0, .string ⟨#[]⟩, .int .i64 0] 34) = W at *
  have hw3 : Three W.drew w.heap.size (.int .u64 0) (.string ⟨#[]⟩) (.int .i64 0) := ⟨h3.c0, h3.c1, h3.c2, h3.f0, h3.f1, h3.f2⟩
  have hwb : Below w.heap.size w W.drew := Hbel.out.drew
  have hlt2 : w.heap.size < W.drew.heap.size := hlt
  clear h3 Hbel
  go_region_held3 (fun wx => Three wx w.heap.size (.int .u64 0) (.string ⟨#[]⟩) (.int .i64 0) ∧ Below w.heap.size w wx)
    (first | with_reducible exact ⟨hw3, hwb⟩ | with_reducible exact ⟨hd3, hdb⟩ | fail)
    (first | (go_at_call 26; refine (Hr1.out _).mono ?_; rintro e w2 ⟨rfl, hb2⟩; have hd3 := three_below hw3 hlt2 hb2; have hdb := hwb.trans (hb2.mono hwb.size); have hlt3 : w.heap.size < w2.heap.size := Nat.lt_of_lt_of_le hlt2 hb2.size) | fail)
  have c0 := hd3.c0
  have c1 := hd3.c1
  have c2 := hd3.c2
  have f0 := hd3.f0
  have f1 := hd3.f1
  have f2 := hd3.f2
  clear hd3 hw3
  go_wp2_with (first
    | (go_at_call 29; have hq0 := Tok; refine (Hb1.out _).mono ?_; rintro e wd ⟨rfl, rfl⟩; clear hq0 Tok)
    | (go_at_call 29; refine (Hb2.out _).mono ?_; rintro e we ⟨rfl, rfl⟩)
    | (go_at_call 13; refine (Hsec.out _).mono ?_; rintro e wf ⟨rfl, rfl⟩)
    | fail)
  have hv3 : Three w2.drew w.heap.size (.int .u64 0) (.string ⟨#[]⟩) (.int .i64 0) := ⟨c0, c1, c2, f0, f1, f2⟩
  have hvb : Below w.heap.size w w2.drew := hdb.drew
  have hlt4 : w.heap.size < w2.drew.heap.size := hlt3
  clear c0 c1 c2 f0 f1 f2
  go_region_held3 (fun wx => Three wx w.heap.size (.int .u64 0) (.string ⟨#[]⟩) (.int .i64 0) ∧ Below w.heap.size w wx)
    (first | with_reducible exact ⟨hv3, hvb⟩ | with_reducible exact ⟨hg3, hgb⟩ | fail)
    (first | (go_at_call 26; refine (Hr2.out _).mono ?_; rintro e w5 ⟨rfl, hb5⟩; have hg3 := three_below hv3 hlt4 hb5; have hgb := hvb.trans (hb5.mono hvb.size)) | fail)
  have c0 := hg3.c0
  have c1 := hg3.c1
  have c2 := hg3.c2
  have f0 := hg3.f0
  have f1 := hg3.f1
  have f2 := hg3.f2
  clear hg3 hv3
  go_wp2_with (first
    | (go_at_call 13; refine (Hsec.out _).mono ?_; rintro e wf ⟨rfl, rfl⟩)
    | fail)
  have Hz : Hid (allz (sub s (24 + l) (q * 512 - (24 + l))) = false) := by show _ = false; rw [← cG, ext_list, List.drop_take]; rfl
  clear cG
  go_loop [10] (fun v => ∃ k : Nat, 24 + l + k ≤ q * 512 ∧ v = .int .i64 (24 + l + k : Nat) ∧ Hid (allz (sub s (24 + l) k) = true)) (fun v => 512 * q - (intOf v).toNat)
  case atStart => exact ⟨0, by omega, by go_num, rfl⟩
  case round =>
    obtain ⟨k, hk, rfl, hzk⟩ := hrel
    by_cases hlt : 24 + l + k < q * 512
    · have hin : 24 + l + k < s.size := by omega
      obtain ⟨c, hc, hts⟩ := byte_sub s (24 + l) k hin
      have hcn : ∀ h : 24 + l + k < s.size, (s[24 + l + k]'h).toNat = c.toNat := fun h => by rw [hc h]
      by_cases hz : c.toNat = 0
      · rw [hz] at hcn
        have Hn : Hid (allz (sub s (24 + l) (k + 1)) = true) := by
          show _ = true
          rw [hts, zero_byte hz]
          have := hzk.out
          simp [allz] at *
          exact this
        clear hts hc hz hzk
        obtain ⟨i, hi⟩ : ∃ i, i = 24 + l + k := ⟨_, rfl⟩
        rw [← hi] at hcn hin hlt
        simp only [← hi]
        have Hi := Lib.hid hi
        clear hi hk
        go_wp2_with fail
        go_round
        case rel => exact ⟨k + 1, by have := Hi.out; omega, by have := Hi.out; go_num, Hn⟩
        case measure => simp [intOf]; omega
      · have d9 : ((c.toNat : Int) == 0) = false := by simp; omega
        clear hts hc hzk
        obtain ⟨i, hi⟩ : ∃ i, i = 24 + l + k := ⟨_, rfl⟩
        rw [← hi] at hcn hin hlt
        simp only [← hi]
        clear hi hk
        go_wp2_with fail
        have k3 := three_set ⟨c0, c1, c2, f0, f1, f2⟩ (.int .u64 0) (.string ⟨#[]⟩) (.int .i64 0)
        have kb := ((hgb.setCell (p := ⟨w.heap.size, 0, none⟩) (Nat.le_refl _) (.int .u64 0)).setCell (p := ⟨w.heap.size, 1, none⟩) (Nat.le_refl _) (.string ⟨#[]⟩)).setCell (p := ⟨w.heap.size, 2, none⟩) (Nat.le_refl _) (.int .i64 0)
        refine ⟨rfl, .tuple #[.agg #[.int .u64 0, .string ⟨#[]⟩, .int .i64 0], .int .i64 50], ?_, rfl, kb⟩
        simp [results, Tryd.results15, go_sem, k3.c0, k3.c1, k3.c2]
    · exfalso
      have e : k = q * 512 - (24 + l) := by omega
      have h1 := hzk.out
      rw [e, Hz.out] at h1
      cases h1

set_option maxHeartbeats 4000000 in
set_option maxRecDepth 100000 in
theorem rget_ok (s : ByteArray) (w : World) (hs : s.size ≤ 1000000) (hA : 20 ≤ s.size) (cB : eqB (s.extract 0 4) mark = true) (cC : eqB (s.extract 16 20) (dig (s.extract 0 16)) = true) (hD : bigN (sub s 12 4) ≤ 65536) (hE : secs (bigN (sub s 12 4)) * 512 ≤ s.size) (cF : eqB (s.extract (20 + bigN (sub s 12 4)) (24 + bigN (sub s 12 4))) (dig (s.extract 20 (20 + bigN (sub s 12 4)))) = true) (cG : allz (s.extract (24 + bigN (sub s 12 4)) (secs (bigN (sub s 12 4)) * 512)).data.toList = true) : Calls Tryd.prog 15 #[.string s] w fun e w' => e = tellV (bigN (sub s 4 8)) (s.extract 20 (20 + bigN (sub s 12 4))) ((secs (bigN (sub s 12 4)) : Int) * 512) 0 ∧ Below w.heap.size w w' := by
  unfold tellV
  have hm : mark.toList = [72, 71, 70, 82] := by rw [ByteArray.toList_eq]; rfl
  rw [← eqB_toList, hm] at cB
  clear hm
  have hr1 := fun w => rdigest_any (s.extract 0 16) w (by rw [ByteArray.size_extract]; omega)
  have cC2 : eqB (s.extract 16 20) (S (digest (s.extract 0 16).data.toList)) = _ := cC
  rw [← eqB_toList] at cC2
  generalize S (digest (s.extract 0 16).data.toList) = d1 at *
  have Hr1 := Lib.hid hr1
  clear hr1 cC
  have hb1 := fun w => rbig_any s 4 8 w hs (by omega) (by omega) (by omega)
  have hb2 := fun w => rbig_any s 12 4 w hs (by omega) (by omega) (by omega)
  have hl32 := bigN_lt64 (sub s 12 4) (by rw [sub_length _ _ _ (by omega)]; omega)
  generalize bigN (sub s 4 8) = n at *
  generalize bigN (sub s 12 4) = l at *
  have dD : decide (65536 < (l : Int)) = false := by simp; omega
  have Hb1 := Lib.hid hb1
  have Hb2 := Lib.hid hb2
  clear hb1 hb2
  have hsec := fun w => rsectors_any (l : Int) w
  rw [secs_eq l hD] at hsec
  have hq := secs_le l hD
  generalize secs l = q at *
  have Hsec := Lib.hid hsec
  clear hsec
  have dE : decide ((s.size : Int) < 512 * (q : Int)) = false := by simp; omega
  have hr2 := fun w => rdigest_any (s.extract 20 (20 + l)) w (by rw [ByteArray.size_extract]; omega)
  rw [show 24 + l = 20 + l + 4 by omega] at cF
  have cF2 : eqB (s.extract (20 + l) (20 + l + 4)) (S (digest (s.extract 20 (20 + l)).data.toList)) = _ := cF
  rw [← eqB_toList] at cF2
  generalize S (digest (s.extract 20 (20 + l)).data.toList) = d2 at *
  have Hr2 := Lib.hid hr2
  clear hr2 cF
  have j1 : (20 : Int) ≤ 20 + l := by omega
  have j2 : (20 : Int) + l ≤ s.size := by omega
  have j3 : (20 : Int) + l + 4 ≤ s.size := by omega
  have j4 : (20 : Int) + l ≤ 20 + l + 4 := by omega
  have j5 : (0 : Int) ≤ 20 + l := by omega
  have j6 : (0 : Int) ≤ 20 + l + 4 := by omega
  have j7 : ((20 : Int) + l).toNat = 20 + l := by omega
  have j8 : ((20 : Int) + l + 4).toNat = 20 + l + 4 := by omega
  have j9 : (0 : Int) ≤ l := by omega
  have jw : IntKind.i64.wrap ((20 : Int) + l + 4) = 20 + l + 4 := by simp only [IntKind.wrap_i64]; omega
  have Tok : Hid (1 = 1) := rfl
  have i16 : (16 : Int) ≤ (s.size : Int) := by omega
  have i20 : (20 : Int) ≤ (s.size : Int) := by omega
  go_enter Tryd.func15, Tryd.ntmps15
  go_wp2_with fail
  have h3 := three_new w 34 (.int .u64 0) (.string ⟨#[]⟩) (.int .i64 0)
  have Hbel := Lib.hid ((Below.refl w.heap.size w).alloc (Nat.le_refl _) (.cells #[.int .u64 0, .string ⟨#[]⟩, .int .i64 0] 34))
  have hlt : w.heap.size < (w.alloc (.cells #[.int .u64 0, .string ⟨#[]⟩, .int .i64 0] 34)).heap.size := by simp
  generalize w.alloc (.cells #[.int .u64 0, .string ⟨#[]⟩, .int .i64 0] 34) = W at *
  have hw3 : Three W.drew w.heap.size (.int .u64 0) (.string ⟨#[]⟩) (.int .i64 0) := ⟨h3.c0, h3.c1, h3.c2, h3.f0, h3.f1, h3.f2⟩
  have hwb : Below w.heap.size w W.drew := Hbel.out.drew
  have hlt2 : w.heap.size < W.drew.heap.size := hlt
  clear h3 Hbel
  go_region_held3 (fun wx => Three wx w.heap.size (.int .u64 0) (.string ⟨#[]⟩) (.int .i64 0) ∧ Below w.heap.size w wx)
    (first | with_reducible exact ⟨hw3, hwb⟩ | with_reducible exact ⟨hd3, hdb⟩ | fail)
    (first | (go_at_call 26; refine (Hr1.out _).mono ?_; rintro e w2 ⟨rfl, hb2⟩; have hd3 := three_below hw3 hlt2 hb2; have hdb := hwb.trans (hb2.mono hwb.size); have hlt3 : w.heap.size < w2.heap.size := Nat.lt_of_lt_of_le hlt2 hb2.size) | fail)
  have c0 := hd3.c0
  have c1 := hd3.c1
  have c2 := hd3.c2
  have f0 := hd3.f0
  have f1 := hd3.f1
  have f2 := hd3.f2
  clear hd3 hw3
  go_wp2_with (first
    | (go_at_call 29; have hq0 := Tok; refine (Hb1.out _).mono ?_; rintro e wd ⟨rfl, rfl⟩; clear hq0 Tok)
    | (go_at_call 29; refine (Hb2.out _).mono ?_; rintro e we ⟨rfl, rfl⟩)
    | (go_at_call 13; refine (Hsec.out _).mono ?_; rintro e wf ⟨rfl, rfl⟩)
    | fail)
  have hv3 : Three w2.drew w.heap.size (.int .u64 0) (.string ⟨#[]⟩) (.int .i64 0) := ⟨c0, c1, c2, f0, f1, f2⟩
  have hvb : Below w.heap.size w w2.drew := hdb.drew
  have hlt4 : w.heap.size < w2.drew.heap.size := hlt3
  clear c0 c1 c2 f0 f1 f2
  go_region_held3 (fun wx => Three wx w.heap.size (.int .u64 0) (.string ⟨#[]⟩) (.int .i64 0) ∧ Below w.heap.size w wx)
    (first | with_reducible exact ⟨hv3, hvb⟩ | with_reducible exact ⟨hg3, hgb⟩ | fail)
    (first | (go_at_call 26; refine (Hr2.out _).mono ?_; rintro e w5 ⟨rfl, hb5⟩; have hg3 := three_below hv3 hlt4 hb5; have hgb := hvb.trans (hb5.mono hvb.size)) | fail)
  have c0 := hg3.c0
  have c1 := hg3.c1
  have c2 := hg3.c2
  have f0 := hg3.f0
  have f1 := hg3.f1
  have f2 := hg3.f2
  clear hg3 hv3
  go_wp2_with (first
    | (go_at_call 13; refine (Hsec.out _).mono ?_; rintro e wf ⟨rfl, rfl⟩)
    | fail)
  have Hz := Lib.hid (zero_at s (24 + l) (q * 512 - (24 + l)) (by rw [← cG, ext_list, List.drop_take]; rfl) (by omega))
  have hq2 := Lib.hid hq
  have hE2 := Lib.hid hE
  clear cG
  go_loop [10] (fun v => ∃ i : Nat, 24 + l ≤ i ∧ i ≤ q * 512 ∧ v = .int .i64 i) (fun v => 512 * q - (intOf v).toNat)
  case atStart => exact ⟨24 + l, by omega, by omega, by go_num⟩
  case round =>
    obtain ⟨i, hi1, hi2, rfl⟩ := hrel
    by_cases hlt : i < q * 512
    · have hcn : ∀ h : i < s.size, (s[i]'h).toNat = 0 := Hz.out i hi1 (by omega)
      have hin : i < s.size := by omega
      go_wp2_with fail
      go_round
      case rel => exact ⟨i + 1, by omega, by omega, by go_num⟩
      case measure => simp [intOf]; omega
    · obtain rfl : i = q * 512 := by omega
      go_wp2_with fail
      have k3 := three_set ⟨c0, c1, c2, f0, f1, f2⟩ (.int .u64 n) (.string (s.extract 20 (20 + l))) (.int .i64 (512 * (q : Int)))
      have kb := ((hgb.setCell (p := ⟨w.heap.size, 0, none⟩) (Nat.le_refl _) (.int .u64 n)).setCell (p := ⟨w.heap.size, 1, none⟩) (Nat.le_refl _) (.string (s.extract 20 (20 + l)))).setCell (p := ⟨w.heap.size, 2, none⟩) (Nat.le_refl _) (.int .i64 (512 * (q : Int)))
      refine ⟨rfl, .tuple #[.agg #[.int .u64 n, .string (s.extract 20 (20 + l)), .int .i64 (512 * (q : Int))], .int .i64 0], ?_, by rw [Int.mul_comm (q : Int)], kb⟩
      simp [results, Tryd.results15, go_sem, k3.c0, k3.c1, k3.c2]
end Go.Proofs.YtgcldacpaommiaaDoor
