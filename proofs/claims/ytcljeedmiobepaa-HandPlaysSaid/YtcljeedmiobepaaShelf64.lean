/-
  Contracts of the library at this program, laid by the kit's own tool (in plain words).
-/
import Derived.Ground.SlgmProg
import Derived.Shelf.SortM.Plain
import Derived.Shelf.SortM.SortNone
import Derived.Test.YtcljeedmiobepaaProg
namespace Go.Proofs
open Go.Shelf
def Ytcljeedmiobepaa.laysSlM5_i64_ren : Go.Shelf.Ren := ⟨fun | 5 => 122 | 8 => 141 | 7 => 169 | 19 => 192 | 20 => 193 | 10 => 204 | 11 => 205 | 12 => 206 | 13 => 207 | 14 => 208 | 15 => 209 | 16 => 161 | 17 => 210 | 18 => 211 | 30 => 222 | 31 => 216 | 32 => 217 | 33 => 223 | 34 => 224 | 35 => 157 | 40 => 245 | n => n, fun | 23 => 72 | 25 => 2 | 3 => 3 | 32 => 205 | 22 => 72 | 0 => 0 | 44 => 250 | 46 => 99 | 4 => 4 | 36 => 243 | 35 => 242 | 41 => 169 | 5 => 5 | 9 => 9 | 53 => 264 | 57 => 268 | 63 => 285 | 64 => 286 | n => n, fun | n => n⟩
theorem Ytcljeedmiobepaa.laysSlM5_i64 : Go.Proofs.SlLaysM.n5 Try.prog Ytcljeedmiobepaa.laysSlM5_i64_ren := {
  mixed := by kernel_rfl
  f5 := ⟨Try.f122.name, by decide, Try.func122.trans (congrArg some (by kernel_rfl))⟩
  f7 := ⟨Try.f169.name, by decide, Try.func169.trans (congrArg some (by kernel_rfl))⟩
  f8 := Try.func141.trans (congrArg some (by kernel_rfl))
  f10 := ⟨Try.f204.name, by decide, Try.func204.trans (congrArg some (by kernel_rfl))⟩
  f11 := ⟨Try.f205.name, by decide, Try.func205.trans (congrArg some (by kernel_rfl))⟩
  f12 := ⟨Try.f206.name, by decide, Try.func206.trans (congrArg some (by kernel_rfl))⟩
  f13 := ⟨Try.f207.name, by decide, Try.func207.trans (congrArg some (by kernel_rfl))⟩
  f14 := ⟨Try.f208.name, by decide, Try.func208.trans (congrArg some (by kernel_rfl))⟩
  f15 := ⟨Try.f209.name, by decide, Try.func209.trans (congrArg some (by kernel_rfl))⟩
  f16 := ⟨Try.f161.name, by decide, Try.func161.trans (congrArg some (by kernel_rfl))⟩
  f17 := ⟨Try.f210.name, by decide, Try.func210.trans (congrArg some (by kernel_rfl))⟩
  f18 := ⟨Try.f211.name, by decide, Try.func211.trans (congrArg some (by kernel_rfl))⟩
  f19 := Try.func192.trans (congrArg some (by kernel_rfl))
  f20 := Try.func193.trans (congrArg some (by kernel_rfl))
  f30 := ⟨Try.f222.name, by decide, Try.func222.trans (congrArg some (by kernel_rfl))⟩
  f31 := Try.func216.trans (congrArg some (by kernel_rfl))
  f32 := Try.func217.trans (congrArg some (by kernel_rfl))
  f33 := ⟨Try.f223.name, by decide, Try.func223.trans (congrArg some (by kernel_rfl))⟩
  f34 := ⟨Try.f224.name, by decide, Try.func224.trans (congrArg some (by kernel_rfl))⟩
  f35 := ⟨Try.f157.name, by decide, Try.func157.trans (congrArg some (by kernel_rfl))⟩
  f40 := ⟨Try.f245.name, by decide, Try.func245.trans (congrArg some (by kernel_rfl))⟩
  t0 := Try.underlying0
  a0 := Try.isAgg0
  z0 := Try.sizeOf0
  v0 := Try.zeroValue0
  t3 := Try.underlying3
  a3 := Try.isAgg3
  z3 := Try.sizeOf3
  v3 := Try.zeroValue3
  t4 := Try.underlying4
  a4 := Try.isAgg4
  z4 := Try.sizeOf4
  v4 := Try.zeroValue4
  t5 := Try.underlying5
  a5 := Try.isAgg5
  z5 := Try.sizeOf5
  v5 := Try.zeroValue5
  t9 := Try.underlying9
  a9 := Try.isAgg9
  z9 := Try.sizeOf9
  v9 := Try.zeroValue9
  t22 := Try.underlying72
  a22 := Try.isAgg72
  z22 := Try.sizeOf72
  v22 := Try.zeroValue72
  t23 := Try.underlying72
  a23 := Try.isAgg72
  z23 := Try.sizeOf72
  v23 := Try.zeroValue72
  t25 := Try.underlying2
  a25 := Try.isAgg2
  z25 := Try.sizeOf2
  v25 := Try.zeroValue2
  t32 := Try.underlying205
  a32 := Try.isAgg205
  z32 := Try.sizeOf205
  v32 := Try.zeroValue205
  t35 := Try.underlying242
  a35 := Try.isAgg242
  z35 := Try.sizeOf242
  v35 := Try.zeroValue242
  t36 := Try.underlying243
  a36 := Try.isAgg243
  z36 := Try.sizeOf243
  v36 := Try.zeroValue243
  t41 := Try.underlying169
  a41 := Try.isAgg169
  z41 := Try.sizeOf169
  v41 := Try.zeroValue169
  t44 := Try.underlying250
  a44 := Try.isAgg250
  z44 := Try.sizeOf250
  v44 := Try.zeroValue250
  t46 := Try.underlying99
  a46 := Try.isAgg99
  z46 := Try.sizeOf99
  v46 := Try.zeroValue99
  t53 := Try.underlying264
  a53 := Try.isAgg264
  z53 := Try.sizeOf264
  v53 := Try.zeroValue264
  t57 := Try.underlying268
  a57 := Try.isAgg268
  z57 := Try.sizeOf268
  v57 := Try.zeroValue268
  t63 := Try.underlying285
  a63 := Try.isAgg285
  z63 := Try.sizeOf285
  v63 := Try.zeroValue285
  t64 := Try.underlying286
  a64 := Try.isAgg286
  z64 := Try.sizeOf286
  v64 := Try.zeroValue286 }
open Go.Sort Go.RowKit in
theorem Ytcljeedmiobepaa.slices_Sort_int_i64 (blk off cap : Nat) (zs : List Int) (w : World) (hH : Holds (Value.int .i64) w blk off zs.toArray) (hblk : blk < w.heap.size) (hsz : zs.length < 4611686018427387904) :
    Calls Try.prog 122 #[.slice (some ⟨blk, off, none⟩) zs.length cap] w fun e w' =>
      e = .returned (.tuple #[]) ∧ ∃ n os, w' = grow (putRow (Value.int .i64) (Sort.ahead w n) blk off (zs.mergeSort fun x y => decide (x ≤ y)).toArray) os := AnyM.slices_Sort_int Ytcljeedmiobepaa.laysSlM5_i64 blk off cap zs w hH hblk hsz
open Go.RowKit Go.Sort in
theorem Ytcljeedmiobepaa.slices_Sort_int_none_i64 (p : Option Addr) (cap : Nat) (w : World) :
    Calls Try.prog 122 #[.slice p 0 cap] w fun e w' => e = .returned (.tuple #[]) ∧ w' = w := AnyM.slices_Sort_int_none Ytcljeedmiobepaa.laysSlM5_i64 p cap w
end Go.Proofs
