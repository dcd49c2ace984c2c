/- frames: what stands in a frame (plain), and that Get reads it back, whatever stands behind it. -/
import Derived.Test.YtgcldacpaommiaaDoorFrGet
namespace Go.Proofs.YtgcldacpaommiaaDoor
open Go.RowKit Go.Deep

theorem bigL_succ (v n : Nat) : bigL v (n + 1) = bigL (v / 256) n ++ [UInt8.ofNat (v % 256)] := by
  unfold bigL
  rw [List.range_succ, List.map_append]
  congr 1
  · apply List.map_congr_left
    intro i hi
    have hi' := List.mem_range.1 hi
    rw [show n + 1 - 1 - i = (n - 1 - i) + 1 by omega, Nat.pow_succ, Nat.mul_comm, Nat.div_div_eq_div_mul]
  · simp
theorem bigN_bigL (n : Nat) : ∀ v, bigN (bigL v n) = v % 256 ^ n := by
  induction n with
  | zero => intro v; simp [bigL, bigN, Nat.mod_one]
  | succ n ih =>
    intro v
    rw [bigL_succ, bigN_snoc, ih]
    have h1 : (UInt8.ofNat (v % 256)).toNat = v % 256 := by rw [UInt8.toNat_ofNat']; simp
    rw [h1, Nat.pow_succ, Nat.mul_comm (256 ^ n), Nat.mod_mul]
    omega
theorem bigN_put (v n : Nat) (h : v < 256 ^ n) : bigN (bigL v n) = v := by rw [bigN_bigL, Nat.mod_eq_of_lt h]

theorem sub_mid (s : ByteArray) (A M R : List UInt8) (a n : Nat) (h : s.data.toList = A ++ M ++ R) (ha : A.length = a) (hn : M.length = n) : sub s a n = M := by
  unfold sub
  rw [h, List.append_assoc, ← ha, List.drop_left, ← hn, List.take_left]
theorem ext_mid (s : ByteArray) (A M R : List UInt8) (a b : Nat) (h : s.data.toList = A ++ M ++ R) (ha : A.length = a) (hn : M.length = b - a) : s.extract a b = S M := by
  rw [ext_sub, sub_mid s A M R a (b - a) h ha hn]

theorem padL_eq (l : List UInt8) (k : Nat) (h : l.length = k + 24) : ∃ z : Nat, padL l = l ++ List.replicate z 0 ∧ k + 24 + z = secs k * 512 := by
  unfold padL secs
  by_cases h0 : l.length % 512 = 0
  · exact ⟨0, by rw [if_pos h0]; simp, by omega⟩
  · exact ⟨512 - l.length % 512, by rw [if_neg h0], by omega⟩
theorem headL_length (n : Nat) (t : List UInt8) : (headL n t).length = 16 := by simp [headL, markL, bigL_length]
theorem allz_replicate (z : Nat) : allz (List.replicate z 0) = true := by simp [allz]
theorem eqB_self (a : ByteArray) : eqB a a = true := decide_eq_true rfl

/-- the parts of a text that begins with a frame. -/
theorem frame_parts (s : ByteArray) (n : Nat) (t b : List UInt8) (h : s.data.toList = frameL n t ++ b) : ∃ z : Nat, s.data.toList = headL n t ++ digest (headL n t) ++ t ++ digest t ++ List.replicate z 0 ++ b ∧ t.length + 24 + z = secs t.length * 512 := by
  obtain ⟨z, h1, h2⟩ := padL_eq (headL n t ++ digest (headL n t) ++ t ++ digest t) t.length (by simp [headL_length, digest_length]; omega)
  refine ⟨z, ?_, h2⟩
  rw [h]
  unfold frameL
  rw [h1]

theorem got_frame (s : ByteArray) (n : Nat) (t b : List UInt8) (h : s.data.toList = frameL n t ++ b) (hn : n < 18446744073709551616) (ht : t.length ≤ 65536) (hs : s.size ≤ 1000000) (w : World) (hst : Steps w) :
    Calls Tryd.prog 28 #[.string s] w fun e w' => e = .returned (.tuple #[.int .u64 n, .string (S t), .int .i64 ((secs t.length : Int) * 512)]) ∧ Below w.heap.size w w' := by
  obtain ⟨z, hl, hz⟩ := frame_parts s n t b h
  have hH := headL_length n t
  have hD := digest_length (headL n t)
  have hE := digest_length t
  have hsz : s.size = t.length + 24 + z + b.length := by rw [← data_len, hl]; simp [hH, hD, hE]; omega
  have h256 : (256 : Nat) ^ 8 = 18446744073709551616 := by decide
  have h2564 : (256 : Nat) ^ 4 = 4294967296 := by decide
  have e1 : bigN (sub s 4 8) = n := by
    rw [sub_mid s markL (bigL n 8) (bigL t.length 4 ++ (digest (headL n t) ++ t ++ digest t ++ List.replicate z 0 ++ b)) 4 8 (by rw [hl]; simp [headL]) rfl (bigL_length _ _)]
    exact bigN_put n 8 (by omega)
  have e2 : bigN (sub s 12 4) = t.length := by
    rw [sub_mid s (markL ++ bigL n 8) (bigL t.length 4) (digest (headL n t) ++ t ++ digest t ++ List.replicate z 0 ++ b) 12 4 (by rw [hl]; simp [headL]) (by simp [bigL_length, markL]) (bigL_length _ _)]
    exact bigN_put _ 4 (by omega)
  have e3 : s.extract 20 (20 + t.length) = S t := ext_mid s (headL n t ++ digest (headL n t)) t (digest t ++ List.replicate z 0 ++ b) _ _ (by rw [hl]; simp) (by simp [hH, hD]) (by omega)
  have e4 : s.extract 0 16 = S (headL n t) := ext_mid s [] (headL n t) (digest (headL n t) ++ t ++ digest t ++ List.replicate z 0 ++ b) _ _ (by rw [hl]; simp) rfl (by omega)
  have e5 : s.extract 16 20 = S (digest (headL n t)) := ext_mid s (headL n t) (digest (headL n t)) (t ++ digest t ++ List.replicate z 0 ++ b) _ _ (by rw [hl]; simp) hH (by omega)
  have e6 : s.extract (20 + t.length) (24 + t.length) = S (digest t) := ext_mid s (headL n t ++ digest (headL n t) ++ t) (digest t) (List.replicate z 0 ++ b) _ _ (by rw [hl]; simp) (by simp [hH, hD]; omega) (by omega)
  have e7 : s.extract (24 + t.length) (secs t.length * 512) = S (List.replicate z 0) := ext_mid s (headL n t ++ digest (headL n t) ++ t ++ digest t) (List.replicate z 0) b _ _ (by rw [hl]) (by simp [hH, hD, hE]; omega) (by simp; omega)
  have e8 : s.extract 0 4 = mark := ext_mid s [] markL (bigL n 8 ++ bigL t.length 4 ++ (digest (headL n t) ++ t ++ digest t ++ List.replicate z 0 ++ b)) _ _ (by rw [hl]; simp [headL]) rfl rfl
  have hg := got_ok s w hst hs (by omega) (by rw [e8]; exact eqB_self _) (by rw [e5, e4]; exact eqB_self _) (by rw [e2]; exact ht) (by rw [e2]; omega) (by rw [e2, e6, e3]; exact eqB_self _) (by rw [e2, e7]; exact allz_replicate _)
  rw [e1, e2, e3] at hg
  exact hg
theorem get_frame (s : ByteArray) (n : Nat) (t b : List UInt8) (h : s.data.toList = frameL n t ++ b) (hn : n < 18446744073709551616) (ht : t.length ≤ 65536) (hs : s.size ≤ 1000000) (w : World) (hst : Steps w) :
    Calls Tryd.prog 14 #[.string s] w fun e w' => e = .returned (.tuple #[.int .u64 n, .string (S t), .int .i64 ((secs t.length : Int) * 512), .int .i64 0]) ∧ Below w.heap.size w w' :=
  get_found s (S t) n _ w hst (fun w' hw' => got_frame s n t b h hn ht hs w' hw')
end Go.Proofs.YtgcldacpaommiaaDoor
