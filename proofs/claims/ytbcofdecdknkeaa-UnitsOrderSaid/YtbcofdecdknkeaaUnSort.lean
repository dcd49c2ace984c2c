/- units: the library's sort of texts at this program (laid by the kit's tool, in plain words), as Hosts asks it. -/
import Derived.Shelf.Sort.Plain
import Derived.Shelf.Slices.In.SortNone
import Derived.Test.YtbcofdecdknkeaaUnHosts
namespace Go.Proofs.Ytbcofdecdknkeaa
open Go.Shelf
def lays190_ren : Go.Shelf.Ren := ⟨fun | 190 => 25 | 125 => 29 | 258 => 28 | 128 => 39 | 129 => 40 | 302 => 30 | 303 => 31 | 304 => 32 | 305 => 33 | 306 => 34 | 307 => 35 | 308 => 36 | 309 => 37 | 310 => 38 | 333 => 41 | 329 => 42 | 330 => 43 | 334 => 44 | 335 => 45 | 336 => 46 | 344 => 47 | n => n, fun | 31 => 37 | 9 => 9 | 3 => 3 | 46 => 60 | 0 => 0 | 51 => 71 | 53 => 73 | 4 => 4 | 183 => 64 | 182 => 63 | 131 => 29 | 5 => 5 | 218 => 74 | 222 => 78 | 228 => 80 | 229 => 81 | n => n, fun | n => n⟩
theorem lays190 : Go.Proofs.Lays.n190 Try.prog lays190_ren := {
  mixed := by kernel_rfl
  f125 := Try.func29.trans (congrArg some (by kernel_rfl))
  f128 := Try.func39.trans (congrArg some (by kernel_rfl))
  f129 := Try.func40.trans (congrArg some (by kernel_rfl))
  f190 := Try.func25.trans (congrArg some (by kernel_rfl))
  f258 := Try.func28.trans (congrArg some (by kernel_rfl))
  f302 := Try.func30.trans (congrArg some (by kernel_rfl))
  f303 := Try.func31.trans (congrArg some (by kernel_rfl))
  f304 := Try.func32.trans (congrArg some (by kernel_rfl))
  f305 := Try.func33.trans (congrArg some (by kernel_rfl))
  f306 := Try.func34.trans (congrArg some (by kernel_rfl))
  f307 := Try.func35.trans (congrArg some (by kernel_rfl))
  f308 := Try.func36.trans (congrArg some (by kernel_rfl))
  f309 := Try.func37.trans (congrArg some (by kernel_rfl))
  f310 := Try.func38.trans (congrArg some (by kernel_rfl))
  f329 := Try.func42.trans (congrArg some (by kernel_rfl))
  f330 := Try.func43.trans (congrArg some (by kernel_rfl))
  f333 := Try.func41.trans (congrArg some (by kernel_rfl))
  f334 := Try.func44.trans (congrArg some (by kernel_rfl))
  f335 := Try.func45.trans (congrArg some (by kernel_rfl))
  f336 := Try.func46.trans (congrArg some (by kernel_rfl))
  f344 := Try.func47.trans (congrArg some (by kernel_rfl))
  t0 := Try.underlying0
  a0 := Try.isAgg0
  z0 := Try.sizeOf0
  v0 := Try.zeroValue0
  t3 := Try.underlying3
  a3 := Try.isAgg3
  z3 := Try.sizeOf3
  v3 := Try.zeroValue3
  t4 := Try.underlying4
  a4 := Try.isAgg4
  z4 := Try.sizeOf4
  v4 := Try.zeroValue4
  t5 := Try.underlying5
  a5 := Try.isAgg5
  z5 := Try.sizeOf5
  v5 := Try.zeroValue5
  t9 := Try.underlying9
  a9 := Try.isAgg9
  z9 := Try.sizeOf9
  v9 := Try.zeroValue9
  t31 := Try.underlying37
  a31 := Try.isAgg37
  z31 := Try.sizeOf37
  v31 := Try.zeroValue37
  t46 := Try.underlying60
  a46 := Try.isAgg60
  z46 := Try.sizeOf60
  v46 := Try.zeroValue60
  t51 := Try.underlying71
  a51 := Try.isAgg71
  z51 := Try.sizeOf71
  v51 := Try.zeroValue71
  t53 := Try.underlying73
  a53 := Try.isAgg73
  z53 := Try.sizeOf73
  v53 := Try.zeroValue73
  t131 := Try.underlying29
  a131 := Try.isAgg29
  z131 := Try.sizeOf29
  v131 := Try.zeroValue29
  t182 := Try.underlying63
  a182 := Try.isAgg63
  z182 := Try.sizeOf63
  v182 := Try.zeroValue63
  t183 := Try.underlying64
  a183 := Try.isAgg64
  z183 := Try.sizeOf64
  v183 := Try.zeroValue64
  t218 := Try.underlying74
  a218 := Try.isAgg74
  z218 := Try.sizeOf74
  v218 := Try.zeroValue74
  t222 := Try.underlying78
  a222 := Try.isAgg78
  z222 := Try.sizeOf78
  v222 := Try.zeroValue78
  t228 := Try.underlying80
  a228 := Try.isAgg80
  z228 := Try.sizeOf80
  v228 := Try.zeroValue80
  t229 := Try.underlying81
  a229 := Try.isAgg81
  z229 := Try.sizeOf81
  v229 := Try.zeroValue81 }
open Go.Sort Go.RowKit in
theorem sortS : SortS := fun g cap ss w hH hg hl => Any.slices_Sort_string lays190 g 0 cap ss w hH hg hl
theorem sortNil : SortNil := fun w => Any.slices_Sort_string_none lays190 none 0 w
open Go.RowKit in
theorem hosts_any (B b n : Nat) (f : Int → ByteArray → List Int) (lun : Int) (w : World) (h : UnB B w b n f) (hn : n ≤ 100000) (hl : (Lit.int .i64 lun).wf = true) :
    Calls Try.prog 14 #[.pointer (some ⟨b, 0, none⟩), .int .i64 lun] w fun e w' => ∃ v ss, e = .returned v ∧ HostsOf f lun ss ∧ w'.ownsRow w.heap.size 9 1 v ss.length (ss.map encStr) ∧ Below w.heap.size w w' := hosts_b sortS sortNil B b n f lun w h hn hl
end Go.Proofs.Ytbcofdecdknkeaa
