/- frames: a frame of which one byte is turned is none (plain: the sum is one to one in its state and in each byte), and what got says of it. -/
import Derived.Test.YtgcldacpaommiaaDoorFrWhole
import Derived.Test.YtgcldacpaommiaaDoorFrPutsLaw
namespace Go.Proofs.YtgcldacpaommiaaDoor
open Go.RowKit Go.Deep

theorem xor_zero {x y : Nat} (h : x ^^^ y = 0) : x = y := by
  have h2 : (x ^^^ y) ^^^ y = y := by rw [h, Nat.zero_xor]
  rwa [Nat.xor_assoc, Nat.xor_self, Nat.xor_zero] at h2
theorem bit1_zero {z : Nat} (hz : z < 4294967296) (h : bit1 z = 0) : z = 0 := by
  unfold bit1 at h
  split at h
  · have := xor_zero h
    unfold poly at this
    omega
  · omega
theorem xor_lt32 {x y : Nat} (hx : x < 4294967296) (hy : y < 4294967296) : x ^^^ y < 4294967296 := Nat.xor_lt_two_pow (n := 32) hx hy
theorem bit1_inj {x y : Nat} (hx : x < 4294967296) (hy : y < 4294967296) (h : bit1 x = bit1 y) : x = y := by
  refine xor_zero (bit1_zero (xor_lt32 hx hy) ?_)
  rw [bit1_xor, h, Nat.xor_self]
theorem bits8_inj {x y : Nat} (hx : x < 4294967296) (hy : y < 4294967296) (h : bits8 x = bits8 y) : x = y := by
  unfold bits8 at h
  have l := @bit1_lt
  have h1 := bit1_inj (l (l (l (l (l (l (l hx))))))) (l (l (l (l (l (l (l hy))))))) h
  have h2 := bit1_inj (l (l (l (l (l (l hx)))))) (l (l (l (l (l (l hy)))))) h1
  have h3 := bit1_inj (l (l (l (l (l hx))))) (l (l (l (l (l hy))))) h2
  have h4 := bit1_inj (l (l (l (l hx)))) (l (l (l (l hy)))) h3
  have h5 := bit1_inj (l (l (l hx))) (l (l (l hy))) h4
  have h6 := bit1_inj (l (l hx)) (l (l hy)) h5
  have h7 := bit1_inj (l hx) (l hy) h6
  exact bit1_inj hx hy h7
theorem byte_lt32 (c : UInt8) : c.toNat < 4294967296 := by have := c.toNat_lt; omega
theorem xor_cancel {a x y : Nat} (h : a ^^^ x = a ^^^ y) : x = y := by
  have : a ^^^ (a ^^^ x) = a ^^^ (a ^^^ y) := by rw [h]
  rwa [← Nat.xor_assoc, ← Nat.xor_assoc, Nat.xor_self, Nat.zero_xor, Nat.zero_xor] at this
theorem step_inj_byte {w : Nat} (hw : w < 4294967296) {a b : UInt8} (h : crcStep w a = crcStep w b) : a = b := by
  have h1 := bits8_inj (xor_lt32 hw (byte_lt32 a)) (xor_lt32 hw (byte_lt32 b)) h
  exact UInt8.toNat_inj.1 (xor_cancel h1)
theorem step_inj {x y : Nat} (hx : x < 4294967296) (hy : y < 4294967296) {a : UInt8} (h : crcStep x a = crcStep y a) : x = y := by
  have h1 := bits8_inj (xor_lt32 hx (byte_lt32 a)) (xor_lt32 hy (byte_lt32 a)) h
  rw [Nat.xor_comm x, Nat.xor_comm y] at h1
  exact xor_cancel h1
theorem fold_inj (l : List UInt8) : ∀ {x y : Nat}, x < 4294967296 → y < 4294967296 → l.foldl crcStep x = l.foldl crcStep y → x = y := by
  induction l with
  | nil => exact fun _ _ h => h
  | cons c l ih => exact fun hx hy h => step_inj hx hy (ih (step_lt hx c) (step_lt hy c) h)
theorem fold_turned (l : List UInt8) : ∀ (k : Nat) (c : UInt8) {x : Nat}, x < 4294967296 → (l.set k c).foldl crcStep x = l.foldl crcStep x → l.set k c = l := by
  induction l with
  | nil => intro k c x _ _; simp
  | cons a l ih =>
    intro k c x hx h
    cases k with
    | zero =>
      simp only [List.set_cons_zero, List.foldl_cons] at h ⊢
      rw [step_inj_byte hx (fold_inj l (step_lt hx c) (step_lt hx a) h)]
    | succ k =>
      simp only [List.set_cons_succ, List.foldl_cons] at h ⊢
      rw [ih k c (step_lt hx a) h]
theorem crc_turned (l : List UInt8) (k : Nat) (c : UInt8) (h : crcL (l.set k c) = crcL l) : l.set k c = l := by
  unfold crcL crcMore at h
  refine fold_turned l k c (ones_xor_lt (by omega : (0 : Nat) < 4294967296)) ?_
  have h2 := congrArg (· ^^^ ones) h
  simp only [Nat.xor_assoc, Nat.xor_self, Nat.xor_zero] at h2
  exact h2
theorem litL_big (v n : Nat) : litL v n = (bigL v n).reverse := by
  unfold litL bigL
  apply List.ext_getElem
  · simp
  · intro i h1 h2
    simp only [List.length_map, List.length_range] at h1
    simp only [List.getElem_map, List.getElem_range, List.getElem_reverse, List.length_map, List.length_range]
    rw [show n - 1 - (n - 1 - i) = i by omega]
theorem litL_inj {v v' n : Nat} (h1 : v < 256 ^ n) (h2 : v' < 256 ^ n) (h : litL v n = litL v' n) : v = v' := by
  rw [litL_big, litL_big] at h
  have h3 := congrArg bigN (List.reverse_inj.1 h)
  rwa [bigN_put _ _ h1, bigN_put _ _ h2] at h3
theorem digest_turned (l : List UInt8) (k : Nat) (c : UInt8) (h : digest (l.set k c) = digest l) : l.set k c = l :=
  crc_turned l k c (litL_inj (by have := crc_lt (l.set k c); omega) (by have := crc_lt l; omega) h)

theorem eqB_no {a b : List UInt8} (h : a ≠ b) : eqB (S a) (S b) = false := by
  unfold eqB
  exact decide_eq_false fun e => h (S_inj e)
theorem eqB_yes {a b : List UInt8} (h : a = b) : eqB (S a) (S b) = true := by rw [h]; exact eqB_self _
theorem dig_S (l : List UInt8) : dig (S l) = S (digest l) := rfl

/-- a text with a head of 16, a digest of 4, a text and its digest, zeros: what stands where. -/
theorem parts_of (H D T E Z : List UInt8) (hH : H.length = 16) (hD : D.length = 4) (hE : E.length = 4) : (S (H ++ D ++ T ++ E ++ Z)).extract 0 16 = S H ∧ (S (H ++ D ++ T ++ E ++ Z)).extract 16 20 = S D ∧ (S (H ++ D ++ T ++ E ++ Z)).extract 20 (20 + T.length) = S T ∧ (S (H ++ D ++ T ++ E ++ Z)).extract (20 + T.length) (24 + T.length) = S E :=
  ⟨ext_mid _ [] H (D ++ T ++ E ++ Z) _ _ (by rw [S_list]; simp) rfl (by omega), ext_mid _ H D (T ++ E ++ Z) _ _ (by rw [S_list]; simp) hH (by omega),
   ext_mid _ (H ++ D) T (E ++ Z) _ _ (by rw [S_list]; simp) (by simp; omega) (by omega), ext_mid _ (H ++ D ++ T) E Z _ _ (by rw [S_list]) (by simp; omega) (by omega)⟩

/-- a frame's list, with a byte turned: one of the four parts is turned. -/
theorem frame_set (n : Nat) (t : List UInt8) (k : Nat) (c : UInt8) (hk : k < 24 + t.length) : ∃ (H D T E : List UInt8) (z : Nat), (frameL n t).set k c = H ++ D ++ T ++ E ++ List.replicate z 0 ∧ H.length = 16 ∧ D.length = 4 ∧ T.length = t.length ∧ E.length = 4 ∧ t.length + 24 + z = secs t.length * 512 ∧
    ((H = (headL n t).set k c ∧ D = digest (headL n t) ∧ T = t ∧ E = digest t) ∨ (H = headL n t ∧ D = (digest (headL n t)).set (k - 16) c ∧ T = t ∧ E = digest t) ∨ (H = headL n t ∧ D = digest (headL n t) ∧ T = t.set (k - 20) c ∧ E = digest t) ∨ (H = headL n t ∧ D = digest (headL n t) ∧ T = t ∧ E = (digest t).set (k - (20 + t.length)) c)) := by
  obtain ⟨z, h1, h2⟩ := padL_eq (headL n t ++ digest (headL n t) ++ t ++ digest t) t.length (by simp [headL_length, digest_length]; omega)
  have e : frameL n t = headL n t ++ (digest (headL n t) ++ (t ++ (digest t ++ List.replicate z 0))) := by unfold frameL; rw [h1]; simp
  have hH := headL_length n t
  have hD := digest_length (headL n t)
  have hE := digest_length t
  rw [e]
  by_cases k1 : k < 16
  · exact ⟨(headL n t).set k c, digest (headL n t), t, digest t, z, by rw [List.set_append_left _ _ (by omega)]; simp, by simp [hH], hD, rfl, hE, h2, .inl ⟨rfl, rfl, rfl, rfl⟩⟩
  rw [List.set_append_right _ _ (by omega), hH]
  by_cases k2 : k < 20
  · exact ⟨headL n t, (digest (headL n t)).set (k - 16) c, t, digest t, z, by rw [List.set_append_left _ _ (by omega)]; simp, hH, by simp [hD], rfl, hE, h2, .inr (.inl ⟨rfl, rfl, rfl, rfl⟩)⟩
  rw [List.set_append_right _ _ (by omega), hD]
  by_cases k3 : k < 20 + t.length
  · exact ⟨headL n t, digest (headL n t), t.set (k - 20) c, digest t, z, by rw [List.set_append_left _ _ (by omega), Nat.sub_sub]; simp, hH, hD, by simp, hE, h2, .inr (.inr (.inl ⟨rfl, rfl, rfl, rfl⟩))⟩
  rw [List.set_append_right _ _ (by omega)]
  exact ⟨headL n t, digest (headL n t), t, (digest t).set (k - (20 + t.length)) c, z, by rw [List.set_append_left _ _ (by omega), show k - 16 - 4 - t.length = k - (20 + t.length) by omega]; simp, hH, hD, rfl, by simp [hE], h2, .inr (.inr (.inr ⟨rfl, rfl, rfl, rfl⟩))⟩

theorem turned_head (H D T E : List UInt8) (z : Nat) (hH : H.length = 16) (hD : D.length = 4) (hE : E.length = 4) (hT : T.length ≤ 65536) (hz : z ≤ 600) (hne : D ≠ digest H) :
    ∃ e : Int, e ≠ 0 ∧ ∀ w, Steps w → Calls Tryd.prog 14 #[.string (S (H ++ D ++ T ++ E ++ List.replicate z 0))] w fun r w' => r = .returned (.tuple #[.int .u64 0, .string ⟨#[]⟩, .int .i64 0, .int .i64 e]) ∧ Below w.heap.size w w' := by
  obtain ⟨p1, p2, _, _⟩ := parts_of H D T E (List.replicate z 0) hH hD hE
  have hs : (S (H ++ D ++ T ++ E ++ List.replicate z 0)).size ≤ 1000000 := by rw [S_size]; simp; omega
  have hA : 20 ≤ (S (H ++ D ++ T ++ E ++ List.replicate z 0)).size := by rw [S_size]; simp; omega
  generalize S (H ++ D ++ T ++ E ++ List.replicate z 0) = s at *
  cases cB : eqB (s.extract 0 4) mark
  · exact ⟨50, by decide, fun w hst => get_fault s w 50 hst fun w hw => got_B s w hw hs hA cB⟩
  · exact ⟨51, by decide, fun w hst => get_fault s w 51 hst fun w hw => got_C s w hw hs hA cB (by rw [p1, p2, dig_S]; exact eqB_no hne)⟩
theorem turned_text (n : Nat) (t T E : List UInt8) (z : Nat) (hT : T.length = t.length) (hE : E.length = 4) (ht : t.length ≤ 65536) (hz : t.length + 24 + z = secs t.length * 512) (hne : E ≠ digest T) (w : World) (hst : Steps w) :
    Calls Tryd.prog 14 #[.string (S (headL n t ++ digest (headL n t) ++ T ++ E ++ List.replicate z 0))] w fun r w' => r = .returned (.tuple #[.int .u64 0, .string ⟨#[]⟩, .int .i64 0, .int .i64 51]) ∧ Below w.heap.size w w' := by
  have hH := headL_length n t
  have hD := digest_length (headL n t)
  obtain ⟨p1, p2, p3, p4⟩ := parts_of (headL n t) (digest (headL n t)) T E (List.replicate z 0) hH hD hE
  have hsz : (S (headL n t ++ digest (headL n t) ++ T ++ E ++ List.replicate z 0)).size = t.length + 24 + z := by rw [S_size]; simp; omega
  have hsec := secs_le t.length ht
  have e8 : (S (headL n t ++ digest (headL n t) ++ T ++ E ++ List.replicate z 0)).extract 0 4 = mark := ext_mid _ [] markL (bigL n 8 ++ bigL t.length 4 ++ (digest (headL n t) ++ T ++ E ++ List.replicate z 0)) _ _ (by rw [S_list]; simp [headL]) rfl rfl
  have e2 : bigN (sub (S (headL n t ++ digest (headL n t) ++ T ++ E ++ List.replicate z 0)) 12 4) = t.length := by
    rw [sub_mid _ (markL ++ bigL n 8) (bigL t.length 4) (digest (headL n t) ++ T ++ E ++ List.replicate z 0) 12 4 (by rw [S_list]; simp [headL]) (by simp [bigL_length, markL]) (bigL_length _ _)]
    exact bigN_put _ 4 (by have : (256 : Nat) ^ 4 = 4294967296 := by decide
                           omega)
  generalize S (headL n t ++ digest (headL n t) ++ T ++ E ++ List.replicate z 0) = s at *
  rw [hT] at p3 p4
  refine get_fault s w 51 hst fun w hw => got_F s w hw (by omega) (by omega) (by rw [e8]; exact eqB_self _) (by rw [p1, p2]; exact eqB_self _) (by rw [e2]; exact ht) (by rw [e2]; omega) ?_
  rw [e2, p3, p4, dig_S]
  exact eqB_no hne
theorem get_turned (n : Nat) (t : List UInt8) (k : Nat) (c : UInt8) (ht : t.length ≤ 65536) (hk : k < 24 + t.length) (hne : (frameL n t).set k c ≠ frameL n t) :
    ∃ e : Int, e ≠ 0 ∧ ∀ w, Steps w → Calls Tryd.prog 14 #[.string (S ((frameL n t).set k c))] w fun r w' => r = .returned (.tuple #[.int .u64 0, .string ⟨#[]⟩, .int .i64 0, .int .i64 e]) ∧ Below w.heap.size w w' := by
  obtain ⟨H, D, T, E, z, h1, hH, hD, hT, hE, hz, hp⟩ := frame_set n t k c hk
  have hz6 : z ≤ 600 := by unfold secs at hz; omega
  have heq : frameL n t = headL n t ++ digest (headL n t) ++ t ++ digest t ++ List.replicate z 0 := by
    obtain ⟨z', h1', h2'⟩ := padL_eq (headL n t ++ digest (headL n t) ++ t ++ digest t) t.length (by simp [headL_length, digest_length]; omega)
    obtain rfl : z' = z := by omega
    unfold frameL
    rw [h1']
  rw [h1] at hne ⊢
  rcases hp with ⟨e1, e2, e3, e4⟩ | ⟨e1, e2, e3, e4⟩ | ⟨e1, e2, e3, e4⟩ | ⟨e1, e2, e3, e4⟩
  · subst e1 e2 e3 e4
    exact turned_head _ _ _ _ z hH hD hE (by omega) hz6 (fun h => hne (by rw [heq, digest_turned _ _ _ h.symm]))
  · rw [e3] at hT
    rw [e1, e2, e3, e4] at hne ⊢
    exact turned_head _ _ _ _ z (headL_length _ _) (by rw [← e2]; exact hD) (digest_length _) ht hz6 (fun h => hne (by rw [heq, h]))
  · rw [e1, e2, e3, e4] at hne ⊢
    exact ⟨51, by decide, fun w hst => turned_text n t _ _ z (by rw [← e3]; exact hT) (digest_length _) ht hz (fun h => hne (by rw [digest_turned _ _ _ h.symm, ← heq])) w hst⟩
  · rw [e1, e2, e3, e4] at hne ⊢
    exact ⟨51, by decide, fun w hst => turned_text n t _ _ z rfl (by rw [← e4]; exact hE) ht hz (fun h => hne (by rw [heq, h])) w hst⟩
end Go.Proofs.YtgcldacpaommiaaDoor
