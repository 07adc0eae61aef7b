/-
  Contracts of the library at this program, laid by the kit's own tool (in plain words).
-/
import Derived.Shelf.Slices.CompactI
import Derived.Shelf.Slices.SearchI
import Derived.Shelf.Slices.Empties
import Derived.Ground.Names2Prog
import Derived.Ground.SlgmProg
import Derived.Shelf.SortM.Plain
import Derived.Shelf.SortM.SortNone
import Derived.Test.YtcljeedmiobepaaProg
namespace Go.Proofs
open Go.Shelf
def Ytcljeedmiobepaa.laysNm220_ren : Go.Shelf.Ren := ⟨fun | 20 => 194 | n => n, fun | 22 => 130 | 3 => 3 | 4 => 4 | 0 => 0 | n => n, fun | n => n⟩
theorem Ytcljeedmiobepaa.laysNm220 : Go.Proofs.Lays2.n20 Try.prog Ytcljeedmiobepaa.laysNm220_ren := {
  mixed := by kernel_rfl
  f20 := Try.func194.trans (congrArg some (by kernel_rfl))
  t0 := Try.underlying0
  a0 := Try.isAgg0
  z0 := Try.sizeOf0
  v0 := Try.zeroValue0
  t3 := Try.underlying3
  a3 := Try.isAgg3
  z3 := Try.sizeOf3
  v3 := Try.zeroValue3
  t4 := Try.underlying4
  a4 := Try.isAgg4
  z4 := Try.sizeOf4
  v4 := Try.zeroValue4
  t22 := Try.underlying130
  a22 := Try.isAgg130
  z22 := Try.sizeOf130
  v22 := Try.zeroValue130
  i3 := by kernel_rfl }
open Go.RowKit Go.Lib Go.Sort in
theorem Ytcljeedmiobepaa.slices_Compact_int (blk off cap : Nat) (zs : List Int) (w : World) (hH : Holds (Value.int .i64) w blk off zs.toArray) (hsz : zs.length ≤ 9223372036854775807) (hcap : zs.length ≤ cap) :
    Calls Try.prog 194 #[.slice (some ⟨blk, off, none⟩) zs.length cap] w fun e w' => e = .returned (.slice (some ⟨blk, off, none⟩) (Lib.compact zs).length cap) ∧ ∃ q, w' = putRow (Value.int .i64) (Sort.ahead w q) blk off (Lib.compact zs ++ List.replicate (zs.length - (Lib.compact zs).length) 0).toArray := Any.slices_Compact_int Ytcljeedmiobepaa.laysNm220 blk off cap zs w hH hsz hcap
open Go.RowKit Go.Lib Go.Sort in
theorem Ytcljeedmiobepaa.slices_Compact_int_empty (a : Option Addr) (cap : Nat) (w : World) :
    Calls Try.prog 194 #[.slice a 0 cap] w fun e w' => e = .returned (.slice a 0 cap) ∧ w' = w := Any.slices_Compact_int_empty Ytcljeedmiobepaa.laysNm220 a cap w
def Ytcljeedmiobepaa.laysNm225_ren : Go.Shelf.Ren := ⟨fun | 25 => 143 | 31 => 189 | 32 => 195 | 37 => 158 | n => n, fun | 22 => 130 | 3 => 3 | 4 => 4 | 40 => 205 | 0 => 0 | n => n, fun | n => n⟩
theorem Ytcljeedmiobepaa.laysNm225 : Go.Proofs.Lays2.n25 Try.prog Ytcljeedmiobepaa.laysNm225_ren := {
  mixed := by kernel_rfl
  f25 := Try.func143.trans (congrArg some (by kernel_rfl))
  f31 := Try.func189.trans (congrArg some (by kernel_rfl))
  f32 := Try.func195.trans (congrArg some (by kernel_rfl))
  f37 := Try.func158.trans (congrArg some (by kernel_rfl))
  t0 := Try.underlying0
  a0 := Try.isAgg0
  z0 := Try.sizeOf0
  v0 := Try.zeroValue0
  t3 := Try.underlying3
  a3 := Try.isAgg3
  z3 := Try.sizeOf3
  v3 := Try.zeroValue3
  t4 := Try.underlying4
  a4 := Try.isAgg4
  z4 := Try.sizeOf4
  v4 := Try.zeroValue4
  t22 := Try.underlying130
  a22 := Try.isAgg130
  z22 := Try.sizeOf130
  v22 := Try.zeroValue130
  t40 := Try.underlying205
  a40 := Try.isAgg205
  z40 := Try.sizeOf205
  v40 := Try.zeroValue205 }
open Go.RowKit Go.Lib in
theorem Ytcljeedmiobepaa.slices_BinarySearch_int (b off n c : Nat) (zs : List Int) (x : Int) (w : World) (hz : n ≤ zs.length) (hbig : n < 4611686018427387904) (hc : ∀ j, j < zs.length → w.cell? ⟨b, off + j, none⟩ = some (.int .i64 (zs.getD j 0))) (hs : (zs.take n).Pairwise (· ≤ ·)) :
    Calls Try.prog 143 #[.slice (some ⟨b, off, none⟩) n c, .int .i64 x] w fun e w' => e = .returned (.tuple #[.int .i64 ((zs.take n).countP (· < x) : Nat), .bool ((zs.take n).contains x)]) ∧ ∃ q, w' = w.drewN q := Any.slices_BinarySearch_int Ytcljeedmiobepaa.laysNm225 b off n c zs x w hz hbig hc hs
open Go.RowKit Go.Lib in
theorem Ytcljeedmiobepaa.slices_BinarySearch_int_empty (a : Option Addr) (c : Nat) (x : Int) (w : World) :
    Calls Try.prog 143 #[.slice a 0 c, .int .i64 x] w fun e w' => e = .returned (.tuple #[.int .i64 0, .bool false]) ∧ w' = w := Any.slices_BinarySearch_int_empty Ytcljeedmiobepaa.laysNm225 a c x w
def Ytcljeedmiobepaa.laysSlM5_int_ren : Go.Shelf.Ren := ⟨fun | 5 => 84 | 8 => 141 | 7 => 140 | 19 => 192 | 20 => 193 | 10 => 183 | 11 => 184 | 12 => 185 | 13 => 186 | 14 => 187 | 15 => 188 | 16 => 189 | 17 => 190 | 18 => 191 | 30 => 215 | 31 => 216 | 32 => 217 | 33 => 218 | 34 => 219 | 35 => 158 | 40 => 243 | n => n, fun | 23 => 130 | 25 => 3 | 3 => 3 | 32 => 205 | 22 => 130 | 0 => 0 | 44 => 250 | 46 => 99 | 4 => 4 | 36 => 243 | 35 => 242 | 41 => 169 | 5 => 5 | 9 => 9 | 53 => 264 | 57 => 268 | 63 => 285 | 64 => 286 | n => n, fun | n => n⟩
theorem Ytcljeedmiobepaa.laysSlM5_int : Go.Proofs.SlLaysM.n5 Try.prog Ytcljeedmiobepaa.laysSlM5_int_ren := {
  mixed := by kernel_rfl
  f5 := ⟨Try.f84.name, by decide, Try.func84.trans (congrArg some (by kernel_rfl))⟩
  f7 := ⟨Try.f140.name, by decide, Try.func140.trans (congrArg some (by kernel_rfl))⟩
  f8 := Try.func141.trans (congrArg some (by kernel_rfl))
  f10 := ⟨Try.f183.name, by decide, Try.func183.trans (congrArg some (by kernel_rfl))⟩
  f11 := ⟨Try.f184.name, by decide, Try.func184.trans (congrArg some (by kernel_rfl))⟩
  f12 := ⟨Try.f185.name, by decide, Try.func185.trans (congrArg some (by kernel_rfl))⟩
  f13 := ⟨Try.f186.name, by decide, Try.func186.trans (congrArg some (by kernel_rfl))⟩
  f14 := ⟨Try.f187.name, by decide, Try.func187.trans (congrArg some (by kernel_rfl))⟩
  f15 := ⟨Try.f188.name, by decide, Try.func188.trans (congrArg some (by kernel_rfl))⟩
  f16 := ⟨Try.f189.name, by decide, Try.func189.trans (congrArg some (by kernel_rfl))⟩
  f17 := ⟨Try.f190.name, by decide, Try.func190.trans (congrArg some (by kernel_rfl))⟩
  f18 := ⟨Try.f191.name, by decide, Try.func191.trans (congrArg some (by kernel_rfl))⟩
  f19 := Try.func192.trans (congrArg some (by kernel_rfl))
  f20 := Try.func193.trans (congrArg some (by kernel_rfl))
  f30 := ⟨Try.f215.name, by decide, Try.func215.trans (congrArg some (by kernel_rfl))⟩
  f31 := Try.func216.trans (congrArg some (by kernel_rfl))
  f32 := Try.func217.trans (congrArg some (by kernel_rfl))
  f33 := ⟨Try.f218.name, by decide, Try.func218.trans (congrArg some (by kernel_rfl))⟩
  f34 := ⟨Try.f219.name, by decide, Try.func219.trans (congrArg some (by kernel_rfl))⟩
  f35 := ⟨Try.f158.name, by decide, Try.func158.trans (congrArg some (by kernel_rfl))⟩
  f40 := ⟨Try.f243.name, by decide, Try.func243.trans (congrArg some (by kernel_rfl))⟩
  t0 := Try.underlying0
  a0 := Try.isAgg0
  z0 := Try.sizeOf0
  v0 := Try.zeroValue0
  t3 := Try.underlying3
  a3 := Try.isAgg3
  z3 := Try.sizeOf3
  v3 := Try.zeroValue3
  t4 := Try.underlying4
  a4 := Try.isAgg4
  z4 := Try.sizeOf4
  v4 := Try.zeroValue4
  t5 := Try.underlying5
  a5 := Try.isAgg5
  z5 := Try.sizeOf5
  v5 := Try.zeroValue5
  t9 := Try.underlying9
  a9 := Try.isAgg9
  z9 := Try.sizeOf9
  v9 := Try.zeroValue9
  t22 := Try.underlying130
  a22 := Try.isAgg130
  z22 := Try.sizeOf130
  v22 := Try.zeroValue130
  t23 := Try.underlying130
  a23 := Try.isAgg130
  z23 := Try.sizeOf130
  v23 := Try.zeroValue130
  t25 := Try.underlying3
  a25 := Try.isAgg3
  z25 := Try.sizeOf3
  v25 := Try.zeroValue3
  t32 := Try.underlying205
  a32 := Try.isAgg205
  z32 := Try.sizeOf205
  v32 := Try.zeroValue205
  t35 := Try.underlying242
  a35 := Try.isAgg242
  z35 := Try.sizeOf242
  v35 := Try.zeroValue242
  t36 := Try.underlying243
  a36 := Try.isAgg243
  z36 := Try.sizeOf243
  v36 := Try.zeroValue243
  t41 := Try.underlying169
  a41 := Try.isAgg169
  z41 := Try.sizeOf169
  v41 := Try.zeroValue169
  t44 := Try.underlying250
  a44 := Try.isAgg250
  z44 := Try.sizeOf250
  v44 := Try.zeroValue250
  t46 := Try.underlying99
  a46 := Try.isAgg99
  z46 := Try.sizeOf99
  v46 := Try.zeroValue99
  t53 := Try.underlying264
  a53 := Try.isAgg264
  z53 := Try.sizeOf264
  v53 := Try.zeroValue264
  t57 := Try.underlying268
  a57 := Try.isAgg268
  z57 := Try.sizeOf268
  v57 := Try.zeroValue268
  t63 := Try.underlying285
  a63 := Try.isAgg285
  z63 := Try.sizeOf285
  v63 := Try.zeroValue285
  t64 := Try.underlying286
  a64 := Try.isAgg286
  z64 := Try.sizeOf286
  v64 := Try.zeroValue286 }
open Go.Sort Go.RowKit in
theorem Ytcljeedmiobepaa.slices_Sort_int_int (blk off cap : Nat) (zs : List Int) (w : World) (hH : Holds (Value.int .i64) w blk off zs.toArray) (hblk : blk < w.heap.size) (hsz : zs.length < 4611686018427387904) :
    Calls Try.prog 84 #[.slice (some ⟨blk, off, none⟩) zs.length cap] w fun e w' =>
      e = .returned (.tuple #[]) ∧ ∃ n os, w' = grow (putRow (Value.int .i64) (Sort.ahead w n) blk off (zs.mergeSort fun x y => decide (x ≤ y)).toArray) os := AnyM.slices_Sort_int Ytcljeedmiobepaa.laysSlM5_int blk off cap zs w hH hblk hsz
open Go.RowKit Go.Sort in
theorem Ytcljeedmiobepaa.slices_Sort_int_none_int (p : Option Addr) (cap : Nat) (w : World) :
    Calls Try.prog 84 #[.slice p 0 cap] w fun e w' => e = .returned (.tuple #[]) ∧ w' = w := AnyM.slices_Sort_int_none Ytcljeedmiobepaa.laysSlM5_int p cap w
end Go.Proofs
