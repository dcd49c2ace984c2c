/- frames: what stands at a text's beginning (got): the walk, one theorem for each way. PRINTED by gen_got.py -/
import Derived.Test.YtgcldacpaommiaaDoorFrTrim
import Derived.OwnWalk
namespace Go.Proofs.YtgcldacpaommiaaDoor
open Go.RowKit Go.Deep

def dig (s : ByteArray) : ByteArray := S (digest s.data.toList)
def secs (l : Nat) : Nat := (l + 535) / 512
theorem secs_eq (l : Nat) (h : l ≤ 65536) : sectors (l : Int) = (secs l : Nat) := by unfold sectors secs; rw [if_neg (by omega)]; omega
theorem secs_le (l : Nat) (h : l ≤ 65536) : secs l ≤ 129 ∧ l + 24 ≤ secs l * 512 := by unfold secs; omega
theorem isEmpty_eqB (r : ByteArray) : r.toList.isEmpty = eqB r ⟨#[]⟩ := by
  rw [← eqB_toList, ByteArray.toList_eq, ByteArray.toList_eq]
  cases r.data.toList <;> rfl
theorem below_drewN {B : Nat} {a w : World} (h : Below B a w) (n : Nat) : Below B a (w.drewN n) := ⟨h.os, h.tape, h.output, h.size, h.block⟩

set_option maxHeartbeats 4000000 in
set_option maxRecDepth 100000 in
theorem got_A (s : ByteArray) (w : World) (hst : Steps w) (hs : s.size ≤ 1000000) (hA : s.size < 20) : Calls Tryd.prog 28 #[.string s] w fun e w' => e = fault 50 ∧ Below w.heap.size w w' := by
  have Hst := Lib.hid hst
  clear hst
  unfold fault
  have Tok : Hid (1 = 1) := rfl
  go_enter Tryd.func28, Tryd.ntmps28
  go_wp2_with (first
    | (go_at_call 38; refine (want_no _ _).mono ?_; rintro e wb ⟨rfl, rfl⟩)
    | fail)
  exact ⟨rfl, rfl, Below.refl _ _⟩

set_option maxHeartbeats 4000000 in
set_option maxRecDepth 100000 in
theorem got_B (s : ByteArray) (w : World) (hst : Steps w) (hs : s.size ≤ 1000000) (hA : 20 ≤ s.size) (cB : eqB (s.extract 0 4) mark = false) : Calls Tryd.prog 28 #[.string s] w fun e w' => e = fault 50 ∧ Below w.heap.size w w' := by
  have Hst := Lib.hid hst
  clear hst
  unfold fault
  have hpre := fun w => prefix_any s w (by omega) hs
  rw [cB] at hpre
  have Hpre := Lib.hid hpre
  clear hpre cB
  have Tok : Hid (1 = 1) := rfl
  go_enter Tryd.func28, Tryd.ntmps28
  go_wp2_with (first
    | (go_at_call 39; refine (Hpre.out _).mono ?_; rintro e wa ⟨rfl, rfl⟩)
    | (go_at_call 38; refine (want_no _ _).mono ?_; rintro e wb ⟨rfl, rfl⟩)
    | fail)
  exact ⟨rfl, rfl, Below.refl _ _⟩

set_option maxHeartbeats 4000000 in
set_option maxRecDepth 100000 in
theorem got_C (s : ByteArray) (w : World) (hst : Steps w) (hs : s.size ≤ 1000000) (hA : 20 ≤ s.size) (cB : eqB (s.extract 0 4) mark = true) (cC : eqB (s.extract 16 20) (dig (s.extract 0 16)) = false) : Calls Tryd.prog 28 #[.string s] w fun e w' => e = fault 51 ∧ Below w.heap.size w w' := by
  have Hst := Lib.hid hst
  clear hst
  unfold fault
  have hpre := fun w => prefix_any s w (by omega) hs
  rw [cB] at hpre
  have Hpre := Lib.hid hpre
  clear hpre cB
  have hr1 := fun w h => right_any (s.extract 0 16) (s.extract 16 20) w h (by rw [ByteArray.size_extract]; omega)
  have cC2 : eqB (s.extract 16 20) (S (digest (s.extract 0 16).data.toList)) = _ := cC
  rw [cC2] at hr1
  have Hr1 := Lib.hid hr1
  clear hr1 cC cC2
  have Tok : Hid (1 = 1) := rfl
  have Tw0 : Hid (1 = 1) := rfl
  go_enter Tryd.func28, Tryd.ntmps28
  go_wp2_with (first
    | (go_at_call 39; refine (Hpre.out _).mono ?_; rintro e wa ⟨rfl, rfl⟩)
    | (go_at_call 38; have hq0 := Tw0; refine (want_yes _ _).mono ?_; rintro e wb ⟨rfl, rfl⟩; clear hq0 Tw0)
    | fail)
  have i16 : (16 : Int) ≤ (s.size : Int) := by omega
  have i20 : (20 : Int) ≤ (s.size : Int) := by omega
  go_still_tail 4, (by kernel_rfl)
  change wpList _ _ _ _ _ w.drew
  have Hbel := Lib.hid (Below.drew (Below.refl w.heap.size w))
  generalize w.drew = w2 at *
  go_wp2_with (first
    | (go_at_call 40; have hq0 := Tok; refine (Hr1.out _ (Hst.out.below Hbel.out)).mono ?_; rintro e wc ⟨rfl, hbc⟩; have Hbel3 := Lib.hid (Hbel.out.trans (hbc.mono Hbel.out.size)); clear hbc Hbel Tok hq0)
    | (go_at_call 38; refine (want_no _ _).mono ?_; rintro e wb ⟨rfl, rfl⟩)
    | fail)
  exact ⟨rfl, rfl, Hbel3.out⟩

set_option maxHeartbeats 4000000 in
set_option maxRecDepth 100000 in
theorem got_D (s : ByteArray) (w : World) (hst : Steps w) (hs : s.size ≤ 1000000) (hA : 20 ≤ s.size) (cB : eqB (s.extract 0 4) mark = true) (cC : eqB (s.extract 16 20) (dig (s.extract 0 16)) = true) (hD : 65536 < bigN (sub s 12 4)) : Calls Tryd.prog 28 #[.string s] w fun e w' => e = fault 50 ∧ Below w.heap.size w w' := by
  have Hst := Lib.hid hst
  clear hst
  unfold fault
  have hpre := fun w => prefix_any s w (by omega) hs
  rw [cB] at hpre
  have Hpre := Lib.hid hpre
  clear hpre cB
  have hr1 := fun w h => right_any (s.extract 0 16) (s.extract 16 20) w h (by rw [ByteArray.size_extract]; omega)
  have cC2 : eqB (s.extract 16 20) (S (digest (s.extract 0 16).data.toList)) = _ := cC
  rw [cC2] at hr1
  have Hr1 := Lib.hid hr1
  clear hr1 cC cC2
  have hb1 := fun w => big_any s 4 8 w hs (by omega) (by omega) (by omega)
  have hb2 := fun w => big_any s 12 4 w hs (by omega) (by omega) (by omega)
  have hl32 := bigN_lt64 (sub s 12 4) (by rw [sub_length _ _ _ (by omega)]; omega)
  generalize bigN (sub s 4 8) = n at *
  generalize bigN (sub s 12 4) = l at *
  have dD : decide ((l : Int) ≤ 65536) = false := by simp; omega
  have Hb1 := Lib.hid hb1
  have Hb2 := Lib.hid hb2
  clear hb1 hb2
  have Tok : Hid (1 = 1) := rfl
  have Tw0 : Hid (1 = 1) := rfl
  have Tw1 : Hid (1 = 1) := rfl
  go_enter Tryd.func28, Tryd.ntmps28
  go_wp2_with (first
    | (go_at_call 39; refine (Hpre.out _).mono ?_; rintro e wa ⟨rfl, rfl⟩)
    | (go_at_call 38; have hq0 := Tw0; refine (want_yes _ _).mono ?_; rintro e wb ⟨rfl, rfl⟩; clear hq0 Tw0)
    | fail)
  have i16 : (16 : Int) ≤ (s.size : Int) := by omega
  have i20 : (20 : Int) ≤ (s.size : Int) := by omega
  go_still_tail 4, (by kernel_rfl)
  change wpList _ _ _ _ _ w.drew
  have Hbel := Lib.hid (Below.drew (Below.refl w.heap.size w))
  generalize w.drew = w2 at *
  go_wp2_with (first
    | (go_at_call 40; have hq0 := Tok; refine (Hr1.out _ (Hst.out.below Hbel.out)).mono ?_; rintro e wc ⟨rfl, hbc⟩; have Hbel3 := Lib.hid (Hbel.out.trans (hbc.mono Hbel.out.size)); clear hbc Hbel Tok hq0)
    | (go_at_call 32; have hq0 := Hbel3; refine (Hb1.out _).mono ?_; rintro e wd ⟨rfl, hbd⟩; have Hbel4 := Lib.hid (Hbel3.out.trans (hbd.mono Hbel3.out.size)); clear hbd Hbel3 hq0)
    | (go_at_call 32; have hq0 := Hbel4; refine (Hb2.out _).mono ?_; rintro e we ⟨rfl, hbe⟩; have Hbel5 := Lib.hid (Hbel4.out.trans (hbe.mono Hbel4.out.size)); clear hbe Hbel4 hq0)
    | (go_at_call 38; have hq0 := Tw1; refine (want_yes _ _).mono ?_; rintro e wb ⟨rfl, rfl⟩; clear hq0 Tw1)
    | (go_at_call 38; refine (want_no _ _).mono ?_; rintro e wb ⟨rfl, rfl⟩)
    | fail)
  exact ⟨rfl, rfl, Hbel5.out⟩

set_option maxHeartbeats 4000000 in
set_option maxRecDepth 100000 in
theorem got_E (s : ByteArray) (w : World) (hst : Steps w) (hs : s.size ≤ 1000000) (hA : 20 ≤ s.size) (cB : eqB (s.extract 0 4) mark = true) (cC : eqB (s.extract 16 20) (dig (s.extract 0 16)) = true) (hD : bigN (sub s 12 4) ≤ 65536) (hE : s.size < secs (bigN (sub s 12 4)) * 512) : Calls Tryd.prog 28 #[.string s] w fun e w' => e = fault 50 ∧ Below w.heap.size w w' := by
  have Hst := Lib.hid hst
  clear hst
  unfold fault
  have hpre := fun w => prefix_any s w (by omega) hs
  rw [cB] at hpre
  have Hpre := Lib.hid hpre
  clear hpre cB
  have hr1 := fun w h => right_any (s.extract 0 16) (s.extract 16 20) w h (by rw [ByteArray.size_extract]; omega)
  have cC2 : eqB (s.extract 16 20) (S (digest (s.extract 0 16).data.toList)) = _ := cC
  rw [cC2] at hr1
  have Hr1 := Lib.hid hr1
  clear hr1 cC cC2
  have hb1 := fun w => big_any s 4 8 w hs (by omega) (by omega) (by omega)
  have hb2 := fun w => big_any s 12 4 w hs (by omega) (by omega) (by omega)
  have hl32 := bigN_lt64 (sub s 12 4) (by rw [sub_length _ _ _ (by omega)]; omega)
  generalize bigN (sub s 4 8) = n at *
  generalize bigN (sub s 12 4) = l at *
  have dD : decide ((l : Int) ≤ 65536) = true := by simp; omega
  have Hb1 := Lib.hid hb1
  have Hb2 := Lib.hid hb2
  clear hb1 hb2
  have hsec := fun w => sectors_any (l : Int) w
  rw [secs_eq l hD] at hsec
  have hq := secs_le l hD
  generalize secs l = q at *
  have dE : decide ((q : Int) * 512 ≤ (s.size : Int)) = false := by simp; omega
  have Hsec := Lib.hid hsec
  clear hsec
  have Tok : Hid (1 = 1) := rfl
  have Tw0 : Hid (1 = 1) := rfl
  have Tw1 : Hid (1 = 1) := rfl
  have Tw2 : Hid (1 = 1) := rfl
  go_enter Tryd.func28, Tryd.ntmps28
  go_wp2_with (first
    | (go_at_call 39; refine (Hpre.out _).mono ?_; rintro e wa ⟨rfl, rfl⟩)
    | (go_at_call 38; have hq0 := Tw0; refine (want_yes _ _).mono ?_; rintro e wb ⟨rfl, rfl⟩; clear hq0 Tw0)
    | fail)
  have i16 : (16 : Int) ≤ (s.size : Int) := by omega
  have i20 : (20 : Int) ≤ (s.size : Int) := by omega
  go_still_tail 4, (by kernel_rfl)
  change wpList _ _ _ _ _ w.drew
  have Hbel := Lib.hid (Below.drew (Below.refl w.heap.size w))
  generalize w.drew = w2 at *
  go_wp2_with (first
    | (go_at_call 40; have hq0 := Tok; refine (Hr1.out _ (Hst.out.below Hbel.out)).mono ?_; rintro e wc ⟨rfl, hbc⟩; have Hbel3 := Lib.hid (Hbel.out.trans (hbc.mono Hbel.out.size)); clear hbc Hbel Tok hq0)
    | (go_at_call 32; have hq0 := Hbel3; refine (Hb1.out _).mono ?_; rintro e wd ⟨rfl, hbd⟩; have Hbel4 := Lib.hid (Hbel3.out.trans (hbd.mono Hbel3.out.size)); clear hbd Hbel3 hq0)
    | (go_at_call 32; have hq0 := Hbel4; refine (Hb2.out _).mono ?_; rintro e we ⟨rfl, hbe⟩; have Hbel5 := Lib.hid (Hbel4.out.trans (hbe.mono Hbel4.out.size)); clear hbe Hbel4 hq0)
    | (go_at_call 12; refine (Hsec.out _).mono ?_; rintro e wf ⟨rfl, rfl⟩)
    | (go_at_call 38; have hq0 := Tw1; refine (want_yes _ _).mono ?_; rintro e wb ⟨rfl, rfl⟩; clear hq0 Tw1)
    | (go_at_call 38; have hq0 := Tw2; refine (want_yes _ _).mono ?_; rintro e wb ⟨rfl, rfl⟩; clear hq0 Tw2)
    | (go_at_call 38; refine (want_no _ _).mono ?_; rintro e wb ⟨rfl, rfl⟩)
    | fail)
  exact ⟨rfl, rfl, Hbel5.out⟩

set_option maxHeartbeats 4000000 in
set_option maxRecDepth 100000 in
theorem got_F (s : ByteArray) (w : World) (hst : Steps w) (hs : s.size ≤ 1000000) (hA : 20 ≤ s.size) (cB : eqB (s.extract 0 4) mark = true) (cC : eqB (s.extract 16 20) (dig (s.extract 0 16)) = true) (hD : bigN (sub s 12 4) ≤ 65536) (hE : secs (bigN (sub s 12 4)) * 512 ≤ s.size) (cF : eqB (s.extract (20 + bigN (sub s 12 4)) (24 + bigN (sub s 12 4))) (dig (s.extract 20 (20 + bigN (sub s 12 4)))) = false) : Calls Tryd.prog 28 #[.string s] w fun e w' => e = fault 51 ∧ Below w.heap.size w w' := by
  have Hst := Lib.hid hst
  clear hst
  unfold fault
  have hpre := fun w => prefix_any s w (by omega) hs
  rw [cB] at hpre
  have Hpre := Lib.hid hpre
  clear hpre cB
  have hr1 := fun w h => right_any (s.extract 0 16) (s.extract 16 20) w h (by rw [ByteArray.size_extract]; omega)
  have cC2 : eqB (s.extract 16 20) (S (digest (s.extract 0 16).data.toList)) = _ := cC
  rw [cC2] at hr1
  have Hr1 := Lib.hid hr1
  clear hr1 cC cC2
  have hb1 := fun w => big_any s 4 8 w hs (by omega) (by omega) (by omega)
  have hb2 := fun w => big_any s 12 4 w hs (by omega) (by omega) (by omega)
  have hl32 := bigN_lt64 (sub s 12 4) (by rw [sub_length _ _ _ (by omega)]; omega)
  generalize bigN (sub s 4 8) = n at *
  generalize bigN (sub s 12 4) = l at *
  have dD : decide ((l : Int) ≤ 65536) = true := by simp; omega
  have Hb1 := Lib.hid hb1
  have Hb2 := Lib.hid hb2
  clear hb1 hb2
  have hsec := fun w => sectors_any (l : Int) w
  rw [secs_eq l hD] at hsec
  have hq := secs_le l hD
  generalize secs l = q at *
  have dE : decide ((q : Int) * 512 ≤ (s.size : Int)) = true := by simp; omega
  have Hsec := Lib.hid hsec
  clear hsec
  have hr2 := fun w h => right_any (s.extract 20 (20 + l)) (s.extract (20 + l) (20 + l + 4)) w h (by rw [ByteArray.size_extract]; omega)
  rw [show 24 + l = 20 + l + 4 by omega] at cF
  have cF2 : eqB (s.extract (20 + l) (20 + l + 4)) (S (digest (s.extract 20 (20 + l)).data.toList)) = _ := cF
  rw [cF2] at hr2
  have Hr2 := Lib.hid hr2
  clear hr2 cF cF2
  have Tok : Hid (1 = 1) := rfl
  have Tw0 : Hid (1 = 1) := rfl
  have Tw1 : Hid (1 = 1) := rfl
  have Tw2 : Hid (1 = 1) := rfl
  have Tw3 : Hid (1 = 1) := rfl
  go_enter Tryd.func28, Tryd.ntmps28
  go_wp2_with (first
    | (go_at_call 39; refine (Hpre.out _).mono ?_; rintro e wa ⟨rfl, rfl⟩)
    | (go_at_call 38; have hq0 := Tw0; refine (want_yes _ _).mono ?_; rintro e wb ⟨rfl, rfl⟩; clear hq0 Tw0)
    | fail)
  have i16 : (16 : Int) ≤ (s.size : Int) := by omega
  have i20 : (20 : Int) ≤ (s.size : Int) := by omega
  go_still_tail 4, (by kernel_rfl)
  change wpList _ _ _ _ _ w.drew
  have Hbel := Lib.hid (Below.drew (Below.refl w.heap.size w))
  generalize w.drew = w2 at *
  go_wp2_with (first
    | (go_at_call 40; have hq0 := Tok; refine (Hr1.out _ (Hst.out.below Hbel.out)).mono ?_; rintro e wc ⟨rfl, hbc⟩; have Hbel3 := Lib.hid (Hbel.out.trans (hbc.mono Hbel.out.size)); clear hbc Hbel Tok hq0)
    | (go_at_call 32; have hq0 := Hbel3; refine (Hb1.out _).mono ?_; rintro e wd ⟨rfl, hbd⟩; have Hbel4 := Lib.hid (Hbel3.out.trans (hbd.mono Hbel3.out.size)); clear hbd Hbel3 hq0)
    | (go_at_call 32; have hq0 := Hbel4; refine (Hb2.out _).mono ?_; rintro e we ⟨rfl, hbe⟩; have Hbel5 := Lib.hid (Hbel4.out.trans (hbe.mono Hbel4.out.size)); clear hbe Hbel4 hq0)
    | (go_at_call 12; refine (Hsec.out _).mono ?_; rintro e wf ⟨rfl, rfl⟩)
    | (go_at_call 40; have hq0 := Hbel5; refine (Hr2.out _ (Hst.out.below Hbel5.out)).mono ?_; rintro e wg ⟨rfl, hbg⟩; have Hbel6 := Lib.hid (Hbel5.out.trans (hbg.mono Hbel5.out.size)); clear hbg Hbel5 hq0)
    | (go_at_call 38; have hq0 := Tw1; refine (want_yes _ _).mono ?_; rintro e wb ⟨rfl, rfl⟩; clear hq0 Tw1)
    | (go_at_call 38; have hq0 := Tw2; refine (want_yes _ _).mono ?_; rintro e wb ⟨rfl, rfl⟩; clear hq0 Tw2)
    | (go_at_call 38; have hq0 := Tw3; refine (want_yes _ _).mono ?_; rintro e wb ⟨rfl, rfl⟩; clear hq0 Tw3)
    | (go_at_call 38; refine (want_no _ _).mono ?_; rintro e wb ⟨rfl, rfl⟩)
    | fail)
  exact ⟨rfl, rfl, Hbel6.out⟩

set_option maxHeartbeats 4000000 in
set_option maxRecDepth 100000 in
theorem got_G (s : ByteArray) (w : World) (hst : Steps w) (hs : s.size ≤ 1000000) (hA : 20 ≤ s.size) (cB : eqB (s.extract 0 4) mark = true) (cC : eqB (s.extract 16 20) (dig (s.extract 0 16)) = true) (hD : bigN (sub s 12 4) ≤ 65536) (hE : secs (bigN (sub s 12 4)) * 512 ≤ s.size) (cF : eqB (s.extract (20 + bigN (sub s 12 4)) (24 + bigN (sub s 12 4))) (dig (s.extract 20 (20 + bigN (sub s 12 4)))) = true) (cG : allz (s.extract (24 + bigN (sub s 12 4)) (secs (bigN (sub s 12 4)) * 512)).data.toList = false) : Calls Tryd.prog 28 #[.string s] w fun e w' => e = fault 50 ∧ Below w.heap.size w w' := by
  have Hst := Lib.hid hst
  clear hst
  unfold fault
  have hpre := fun w => prefix_any s w (by omega) hs
  rw [cB] at hpre
  have Hpre := Lib.hid hpre
  clear hpre cB
  have hr1 := fun w h => right_any (s.extract 0 16) (s.extract 16 20) w h (by rw [ByteArray.size_extract]; omega)
  have cC2 : eqB (s.extract 16 20) (S (digest (s.extract 0 16).data.toList)) = _ := cC
  rw [cC2] at hr1
  have Hr1 := Lib.hid hr1
  clear hr1 cC cC2
  have hb1 := fun w => big_any s 4 8 w hs (by omega) (by omega) (by omega)
  have hb2 := fun w => big_any s 12 4 w hs (by omega) (by omega) (by omega)
  have hl32 := bigN_lt64 (sub s 12 4) (by rw [sub_length _ _ _ (by omega)]; omega)
  generalize bigN (sub s 4 8) = n at *
  generalize bigN (sub s 12 4) = l at *
  have dD : decide ((l : Int) ≤ 65536) = true := by simp; omega
  have Hb1 := Lib.hid hb1
  have Hb2 := Lib.hid hb2
  clear hb1 hb2
  have hsec := fun w => sectors_any (l : Int) w
  rw [secs_eq l hD] at hsec
  have hq := secs_le l hD
  generalize secs l = q at *
  have dE : decide ((q : Int) * 512 ≤ (s.size : Int)) = true := by simp; omega
  have Hsec := Lib.hid hsec
  clear hsec
  have hr2 := fun w h => right_any (s.extract 20 (20 + l)) (s.extract (20 + l) (20 + l + 4)) w h (by rw [ByteArray.size_extract]; omega)
  rw [show 24 + l = 20 + l + 4 by omega] at cF
  have cF2 : eqB (s.extract (20 + l) (20 + l + 4)) (S (digest (s.extract 20 (20 + l)).data.toList)) = _ := cF
  rw [cF2] at hr2
  have Hr2 := Lib.hid hr2
  clear hr2 cF cF2
  have htr := fun w => trim_any (s.extract (20 + l + 4) (q * 512)) w (by rw [ByteArray.size_extract]; omega)
  have htn := trim_nil (s.extract (20 + l + 4) (q * 512))
  rw [show 24 + l = 20 + l + 4 by omega] at cG
  rw [cG] at htn
  generalize trimL (trimR (s.extract (20 + l + 4) (q * 512))) = r at *
  have hre : r.toList.isEmpty = false := by rw [← htn]; exact isEmpty_eqB r
  have Htr := Lib.hid htr
  clear htr htn cG
  have Tok : Hid (1 = 1) := rfl
  have Tw0 : Hid (1 = 1) := rfl
  have Tw1 : Hid (1 = 1) := rfl
  have Tw2 : Hid (1 = 1) := rfl
  have Tw3 : Hid (1 = 1) := rfl
  have Tw4 : Hid (1 = 1) := rfl
  go_enter Tryd.func28, Tryd.ntmps28
  go_wp2_with (first
    | (go_at_call 39; refine (Hpre.out _).mono ?_; rintro e wa ⟨rfl, rfl⟩)
    | (go_at_call 38; have hq0 := Tw0; refine (want_yes _ _).mono ?_; rintro e wb ⟨rfl, rfl⟩; clear hq0 Tw0)
    | fail)
  have i16 : (16 : Int) ≤ (s.size : Int) := by omega
  have i20 : (20 : Int) ≤ (s.size : Int) := by omega
  go_still_tail 4, (by kernel_rfl)
  change wpList _ _ _ _ _ w.drew
  have Hbel := Lib.hid (Below.drew (Below.refl w.heap.size w))
  generalize w.drew = w2 at *
  go_wp2_with (first
    | (go_at_call 40; have hq0 := Tok; refine (Hr1.out _ (Hst.out.below Hbel.out)).mono ?_; rintro e wc ⟨rfl, hbc⟩; have Hbel3 := Lib.hid (Hbel.out.trans (hbc.mono Hbel.out.size)); clear hbc Hbel Tok hq0)
    | (go_at_call 32; have hq0 := Hbel3; refine (Hb1.out _).mono ?_; rintro e wd ⟨rfl, hbd⟩; have Hbel4 := Lib.hid (Hbel3.out.trans (hbd.mono Hbel3.out.size)); clear hbd Hbel3 hq0)
    | (go_at_call 32; have hq0 := Hbel4; refine (Hb2.out _).mono ?_; rintro e we ⟨rfl, hbe⟩; have Hbel5 := Lib.hid (Hbel4.out.trans (hbe.mono Hbel4.out.size)); clear hbe Hbel4 hq0)
    | (go_at_call 12; refine (Hsec.out _).mono ?_; rintro e wf ⟨rfl, rfl⟩)
    | (go_at_call 40; have hq0 := Hbel5; refine (Hr2.out _ (Hst.out.below Hbel5.out)).mono ?_; rintro e wg ⟨rfl, hbg⟩; have Hbel6 := Lib.hid (Hbel5.out.trans (hbg.mono Hbel5.out.size)); clear hbg Hbel5 hq0)
    | (go_at_call 41; refine (Htr.out _).mono ?_; rintro e wh ⟨rfl, nd, rfl⟩; have Hbel7 := Lib.hid (below_drewN Hbel6.out nd); clear Hbel6)
    | (go_at_call 38; have hq0 := Tw1; refine (want_yes _ _).mono ?_; rintro e wb ⟨rfl, rfl⟩; clear hq0 Tw1)
    | (go_at_call 38; have hq0 := Tw2; refine (want_yes _ _).mono ?_; rintro e wb ⟨rfl, rfl⟩; clear hq0 Tw2)
    | (go_at_call 38; have hq0 := Tw3; refine (want_yes _ _).mono ?_; rintro e wb ⟨rfl, rfl⟩; clear hq0 Tw3)
    | (go_at_call 38; have hq0 := Tw4; refine (want_yes _ _).mono ?_; rintro e wb ⟨rfl, rfl⟩; clear hq0 Tw4)
    | (go_at_call 38; refine (want_no _ _).mono ?_; rintro e wb ⟨rfl, rfl⟩)
    | fail)
  exact ⟨rfl, rfl, Hbel7.out⟩

set_option maxHeartbeats 4000000 in
set_option maxRecDepth 100000 in
theorem got_ok (s : ByteArray) (w : World) (hst : Steps w) (hs : s.size ≤ 1000000) (hA : 20 ≤ s.size) (cB : eqB (s.extract 0 4) mark = true) (cC : eqB (s.extract 16 20) (dig (s.extract 0 16)) = true) (hD : bigN (sub s 12 4) ≤ 65536) (hE : secs (bigN (sub s 12 4)) * 512 ≤ s.size) (cF : eqB (s.extract (20 + bigN (sub s 12 4)) (24 + bigN (sub s 12 4))) (dig (s.extract 20 (20 + bigN (sub s 12 4)))) = true) (cG : allz (s.extract (24 + bigN (sub s 12 4)) (secs (bigN (sub s 12 4)) * 512)).data.toList = true) : Calls Tryd.prog 28 #[.string s] w fun e w' => e = .returned (.tuple #[.int .u64 (bigN (sub s 4 8) : Nat), .string (s.extract 20 (20 + bigN (sub s 12 4))), .int .i64 ((secs (bigN (sub s 12 4)) : Int) * 512)]) ∧ Below w.heap.size w w' := by
  have Hst := Lib.hid hst
  clear hst
  have hpre := fun w => prefix_any s w (by omega) hs
  rw [cB] at hpre
  have Hpre := Lib.hid hpre
  clear hpre cB
  have hr1 := fun w h => right_any (s.extract 0 16) (s.extract 16 20) w h (by rw [ByteArray.size_extract]; omega)
  have cC2 : eqB (s.extract 16 20) (S (digest (s.extract 0 16).data.toList)) = _ := cC
  rw [cC2] at hr1
  have Hr1 := Lib.hid hr1
  clear hr1 cC cC2
  have hb1 := fun w => big_any s 4 8 w hs (by omega) (by omega) (by omega)
  have hb2 := fun w => big_any s 12 4 w hs (by omega) (by omega) (by omega)
  have hl32 := bigN_lt64 (sub s 12 4) (by rw [sub_length _ _ _ (by omega)]; omega)
  generalize bigN (sub s 4 8) = n at *
  generalize bigN (sub s 12 4) = l at *
  have dD : decide ((l : Int) ≤ 65536) = true := by simp; omega
  have Hb1 := Lib.hid hb1
  have Hb2 := Lib.hid hb2
  clear hb1 hb2
  have hsec := fun w => sectors_any (l : Int) w
  rw [secs_eq l hD] at hsec
  have hq := secs_le l hD
  generalize secs l = q at *
  have dE : decide ((q : Int) * 512 ≤ (s.size : Int)) = true := by simp; omega
  have Hsec := Lib.hid hsec
  clear hsec
  have hr2 := fun w h => right_any (s.extract 20 (20 + l)) (s.extract (20 + l) (20 + l + 4)) w h (by rw [ByteArray.size_extract]; omega)
  rw [show 24 + l = 20 + l + 4 by omega] at cF
  have cF2 : eqB (s.extract (20 + l) (20 + l + 4)) (S (digest (s.extract 20 (20 + l)).data.toList)) = _ := cF
  rw [cF2] at hr2
  have Hr2 := Lib.hid hr2
  clear hr2 cF cF2
  have htr := fun w => trim_any (s.extract (20 + l + 4) (q * 512)) w (by rw [ByteArray.size_extract]; omega)
  have htn := trim_nil (s.extract (20 + l + 4) (q * 512))
  rw [show 24 + l = 20 + l + 4 by omega] at cG
  rw [cG] at htn
  generalize trimL (trimR (s.extract (20 + l + 4) (q * 512))) = r at *
  have hre : r.toList.isEmpty = true := by rw [← htn]; exact isEmpty_eqB r
  have Htr := Lib.hid htr
  clear htr htn cG
  have Tok : Hid (1 = 1) := rfl
  have Tw0 : Hid (1 = 1) := rfl
  have Tw1 : Hid (1 = 1) := rfl
  have Tw2 : Hid (1 = 1) := rfl
  have Tw3 : Hid (1 = 1) := rfl
  have Tw4 : Hid (1 = 1) := rfl
  have Tw5 : Hid (1 = 1) := rfl
  go_enter Tryd.func28, Tryd.ntmps28
  go_wp2_with (first
    | (go_at_call 39; refine (Hpre.out _).mono ?_; rintro e wa ⟨rfl, rfl⟩)
    | (go_at_call 38; have hq0 := Tw0; refine (want_yes _ _).mono ?_; rintro e wb ⟨rfl, rfl⟩; clear hq0 Tw0)
    | fail)
  have i16 : (16 : Int) ≤ (s.size : Int) := by omega
  have i20 : (20 : Int) ≤ (s.size : Int) := by omega
  go_still_tail 4, (by kernel_rfl)
  change wpList _ _ _ _ _ w.drew
  have Hbel := Lib.hid (Below.drew (Below.refl w.heap.size w))
  generalize w.drew = w2 at *
  go_wp2_with (first
    | (go_at_call 40; have hq0 := Tok; refine (Hr1.out _ (Hst.out.below Hbel.out)).mono ?_; rintro e wc ⟨rfl, hbc⟩; have Hbel3 := Lib.hid (Hbel.out.trans (hbc.mono Hbel.out.size)); clear hbc Hbel Tok hq0)
    | (go_at_call 32; have hq0 := Hbel3; refine (Hb1.out _).mono ?_; rintro e wd ⟨rfl, hbd⟩; have Hbel4 := Lib.hid (Hbel3.out.trans (hbd.mono Hbel3.out.size)); clear hbd Hbel3 hq0)
    | (go_at_call 32; have hq0 := Hbel4; refine (Hb2.out _).mono ?_; rintro e we ⟨rfl, hbe⟩; have Hbel5 := Lib.hid (Hbel4.out.trans (hbe.mono Hbel4.out.size)); clear hbe Hbel4 hq0)
    | (go_at_call 12; refine (Hsec.out _).mono ?_; rintro e wf ⟨rfl, rfl⟩)
    | (go_at_call 40; have hq0 := Hbel5; refine (Hr2.out _ (Hst.out.below Hbel5.out)).mono ?_; rintro e wg ⟨rfl, hbg⟩; have Hbel6 := Lib.hid (Hbel5.out.trans (hbg.mono Hbel5.out.size)); clear hbg Hbel5 hq0)
    | (go_at_call 41; refine (Htr.out _).mono ?_; rintro e wh ⟨rfl, nd, rfl⟩; have Hbel7 := Lib.hid (below_drewN Hbel6.out nd); clear Hbel6)
    | (go_at_call 38; have hq0 := Tw1; refine (want_yes _ _).mono ?_; rintro e wb ⟨rfl, rfl⟩; clear hq0 Tw1)
    | (go_at_call 38; have hq0 := Tw2; refine (want_yes _ _).mono ?_; rintro e wb ⟨rfl, rfl⟩; clear hq0 Tw2)
    | (go_at_call 38; have hq0 := Tw3; refine (want_yes _ _).mono ?_; rintro e wb ⟨rfl, rfl⟩; clear hq0 Tw3)
    | (go_at_call 38; have hq0 := Tw4; refine (want_yes _ _).mono ?_; rintro e wb ⟨rfl, rfl⟩; clear hq0 Tw4)
    | (go_at_call 38; have hq0 := Tw5; refine (want_yes _ _).mono ?_; rintro e wb ⟨rfl, rfl⟩; clear hq0 Tw5)
    | fail)
  go_ret3
  exact ⟨rfl, Hbel7.out⟩
end Go.Proofs.YtgcldacpaommiaaDoor
