/- frames: the plain functions on bytes (no program): numbers in bytes, the sum, the frame, what a frame tells. -/
import Derived.WalkKit
namespace Go.Proofs.YtgcldacpaommiaaDoor

/-- a number's n bytes, the highest first, the lowest first. -/
def bigL (v n : Nat) : List UInt8 := (List.range n).map fun i => UInt8.ofNat (v / 256 ^ (n - 1 - i) % 256)
def litL (v n : Nat) : List UInt8 := (List.range n).map fun i => UInt8.ofNat (v / 256 ^ i % 256)
/-- bytes' number. -/
def bigN (l : List UInt8) : Nat := l.foldl (fun a b => 256 * a + b.toNat) 0
/-- bytes as a text. -/
def S (l : List UInt8) : ByteArray := ⟨l.toArray⟩
theorem S_size (l : List UInt8) : (S l).size = l.length := by simp [S, ByteArray.size]
theorem S_list (l : List UInt8) : (S l).data.toList = l := rfl
theorem S_data (s : ByteArray) : S s.data.toList = s := rfl
theorem S_inj {a b : List UInt8} (h : S a = S b) : a = b := by
  have := congrArg (fun s : ByteArray => s.data.toList) h
  exact this
theorem data_len (s : ByteArray) : s.data.toList.length = s.size := by rw [Array.length_toList]; rfl
theorem bigL_length (v n : Nat) : (bigL v n).length = n := by simp [bigL]
theorem litL_length (v n : Nat) : (litL v n).length = n := by simp [litL]

/-! ### the sum -/
def poly : Nat := 2197175160
def bit1 (w : Nat) : Nat := if w % 2 = 1 then (w / 2) ^^^ poly else w / 2
def bits8 (w : Nat) : Nat := bit1 (bit1 (bit1 (bit1 (bit1 (bit1 (bit1 (bit1 w)))))))
def crcStep (w : Nat) (b : UInt8) : Nat := bits8 (w ^^^ b.toNat)
def ones : Nat := 4294967295
def crcMore (w : Nat) (l : List UInt8) : Nat := l.foldl crcStep (w ^^^ ones) ^^^ ones
def crcL (l : List UInt8) : Nat := crcMore 0 l
def digest (l : List UInt8) : List UInt8 := litL (crcL l) 4

/-! ### the frame -/
def padL (l : List UInt8) : List UInt8 := if l.length % 512 = 0 then l else l ++ List.replicate (512 - l.length % 512) 0
def markL : List UInt8 := [72, 71, 70, 82]
def headL (n : Nat) (t : List UInt8) : List UInt8 := markL ++ bigL n 8 ++ bigL t.length 4
def frameL (n : Nat) (t : List UInt8) : List UInt8 := padL (headL n t ++ digest (headL n t) ++ t ++ digest t)
def sectors (len : Int) : Int := if len < 0 ∨ 65536 < len then 0 else (len + 24 + 511) / 512

end Go.Proofs.YtgcldacpaommiaaDoor
