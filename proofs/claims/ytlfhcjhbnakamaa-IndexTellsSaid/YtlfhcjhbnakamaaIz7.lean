/-
  Slices of numbers; appends of any slice.
-/
import Derived.Test.YtlfhcjhbnakamaaIz4
import Derived.Test.YtlfhcjhbnakamaaIz5
import Derived.Test.YtlfhcjhbnakamaaIz6
import Derived.Shelf.Lay
import Derived.Shelf.LaySoft
import Derived.Shelf.Slices.CompactI
import Derived.Shelf.Slices.SearchI
import Derived.Shelf.Slices.Empties
import Derived.Ground.Names2Prog
import Derived.Ground.SlgmProg
import Derived.Shelf.SortM.Plain
import Derived.Shelf.SortM.SortNone
import Derived.Test.YtlfhcjhbnakamaaProg
import Derived.Sort.OwnSortedInts
import Derived.Deep.QuietTactic
import Derived.BigQuiet
import Derived.IntWalk
import Derived.Lib.SmallJoins
namespace Go.Proofs.Ytlfhcjhbnakamaa.Rk
open Go.RowKit Go.Gh
set_option linter.unusedVariables false
set_option linter.unusedSimpArgs false
/-- A list of numbers. -/
def Ns (w : World) (v : Value) (l : List Int) : Prop := Sl w 1 v l.length (l.map (Value.int .i64))
theorem Ns.below {w w' : World} {v : Value} {l : List Int} (h : Ns w v l) (hb : Below w.heap.size w w') : Ns w' v l := Sl.below h hb
/-- A level, of one cell. -/
def LvR (w : World) (l : List Int) (c : List Value) : Prop := ∃ t, c = [t] ∧ Ns w t l
theorem lvR_mono : Mono LvR := fun w w' a c ⟨t, h1, h2⟩ hb => ⟨t, h1, h2.below hb⟩
theorem Ns.at {w : World} {ao : Option Addr} {n c i : Nat} {l : List Int} {z : Int} (h : Ns w (.slice ao n c) l) (hz : l[i]? = some z) : ∃ b off, ao = some ⟨b, off, none⟩ ∧ w.cell? ⟨b, off + i, none⟩ = some (.int .i64 z) := by
  obtain ⟨ao', cap, e, _, _, _, _, h8⟩ := h
  simp at e
  obtain ⟨rfl, rfl, rfl⟩ := e
  obtain ⟨b, off, rfl, hc⟩ := h8 (by have := (List.getElem?_eq_some_iff.1 hz).1; omega)
  exact ⟨b, off, rfl, hc i _ (by rw [List.getElem?_map, hz]; rfl)⟩
theorem drew_add (w : World) (a b : Nat) : (w.drewN a).drewN b = w.drewN (a + b) := by
  induction b with
  | zero => rfl
  | succ b ih => show ((w.drewN a).drewN b).drew = _; rw [ih]; rfl
theorem run_append_gen {P : Program} {W : World} {B : Nat} {t ty e : TypeId} {size bytes n m c : Nat} {ao : Option Addr} {v : Value} {xs news : List Value} (el : Elem P t e size bytes) (hown : W.ownsRow B e size v n xs) (hx : Sl W size (.slice ao m c) m news) (h1 : ∀ u ∈ news, u.oneCell' = true)
    (h47 : (n + m) * bytes ≤ 140737488355328) (h63 : n + m ≤ 9223372036854775807) (hB : B ≤ W.heap.size) :
    ∃ v' w', (Builtin.append_ #[t, t] ty #[v, .slice ao m c]).run P W = .ok v' w' ∧ w'.ownsRow B e size v' (n + m) (xs ++ news) ∧ W.grownBy w' v.ownBlock := by
  obtain ⟨i, z, h2, h3, h4, h5, h6⟩ := el.info
  have hl : news.length = m * size := by obtain ⟨_, _, _, _, _, _, h, _⟩ := hx; exact h
  cases ao with
  | none =>
    obtain ⟨rfl, rfl⟩ : m = 0 ∧ c = 0 := by
      obtain ⟨ao', cap, e1, h, _, h', _, _⟩ := hx
      simp at e1
      obtain ⟨rfl, rfl⟩ := e1
      have := h' rfl
      omega
    have hnil : news = [] := List.length_eq_zero_iff.1 (by simpa using hl)
    subst hnil
    have hr := run_append_owned_none (P := P) (w := W) B t ty e i size el.und h2 _ n xs hown
    exact ⟨v, W, hr, by rw [List.append_nil]; exact hown, ⟨rfl, rfl, rfl, Nat.le_refl _, fun _ _ _ => rfl⟩⟩
  | some ad =>
    obtain ⟨v', w', hr, h7, h8, _⟩ := run_append_own (P := P) W B t ty e i z size bytes el.und h2 h3 h4 h5 h6 el.pos v n xs hown ad m c news hl (sl_news hx) h1 (by unfold maxLen; exact h63) h47 hB
    exact ⟨v', w', hr, h7, h8⟩
theorem wpList_append_gen {P : Program} {ops : Array Oper} {rest : List Oper} {o : Oper} {a : Act} {Q : Exit → Act → World → Prop} {W w0 : World} {B : Nat} {t e : TypeId} {size bytes n m c : Nat} {ao : Option Addr} {v : Value} {xs news : List Value} (el : Elem P t e size bytes) (hgd : o.guard = none) (s x : Operand)
    (ho : o.op = .call { callee := .builtin .append, args := #[s, x], argTypes := #[t, t] }) (hown : W.ownsRow B e size v n xs) (hbel : Below B w0 W) (hs : a.eval s = v) (hxv : a.eval x = .slice ao m c) (hx : Sl W size (.slice ao m c) m news) (h1 : ∀ u ∈ news, u.oneCell' = true)
    (h47 : (n + m) * bytes ≤ 140737488355328) (h63 : n + m ≤ 9223372036854775807) (hB : B ≤ W.heap.size)
    (h : ∀ v' w', w'.ownsRow B e size v' (n + m) (xs ++ news) → Below B w0 w' → W.grownBy w' v.ownBlock → wpList P ops Q rest (a.put o.dst v') w') : wpList P ops Q (o :: rest) a W :=
  wpList_plain hgd fun _ hK => by
    obtain ⟨v', w', hr, h2, h3⟩ := run_append_gen (P := P) (ty := o.type) el hown hx h1 h47 h63 hB
    unfold Oper.wp execOp
    simp only [ho, resolve, invoke, builtin, Sem.run_bind, Sem.run_pure, Result.andThen_ok, List.map_toArray, List.map_cons, List.map_nil, hs, hxv, hr]
    exact hK _ _ (h v' w' h2 (Below.grown hbel h3 hB (fun k hk => (hown.lt k hk).1)) h3)
theorem wpList_append_zeros {P : Program} {ops : Array Oper} {rest : List Oper} {o : Oper} {a : Act} {Q : Exit → Act → World → Prop} {W W' : World} {t tn : TypeId} {k : IntKind} {n : Int} {v : Value} (hgd : o.guard = none) (s x : Operand)
    (ho : o.op = .call { callee := .builtin .append, args := #[s, x], argTypes := #[t, tn] }) (hs : a.eval s = .slice none 0 0) (hxv : a.eval x = .int k n) (hr : ∀ ty, (Builtin.append_ #[t, tn] ty #[.slice none 0 0, .int k n]).run P W = .ok v W')
    (h : wpList P ops Q rest (a.put o.dst v) W') : wpList P ops Q (o :: rest) a W :=
  wpList_plain hgd fun _ hK => by
    have hr := hr o.type
    unfold Oper.wp execOp
    simp only [ho, resolve, invoke, builtin, Sem.run_bind, Sem.run_pure, Result.andThen_ok, List.map_toArray, List.map_cons, List.map_nil, hs, hxv, hr]
    exact hK _ _ h
theorem own_none {w : World} {B : Nat} {e : TypeId} {g n cap size : Nat} {xs : List Value} (h : w.ownsRow B e size (.slice (some ⟨g, 0, none⟩) n cap) n xs) : w.ownsRow B e size (.slice (some ⟨g, 0, none⟩) 0 cap) 0 [] := by
  rcases h.2 with ⟨e1, _⟩ | ⟨g', cap', cur, e1, hb, hg, hnc, hcm, hsz, _⟩
  · simp at e1
  · simp at e1
    obtain ⟨rfl, rfl⟩ := e1
    exact ⟨by simp, Or.inr ⟨g, cap, cur, rfl, hb, hg, Nat.zero_le _, hcm, hsz, by simp⟩⟩
theorem flat_take {lv : List (List Int)} {k : Nat} {l : List Int} (h : lv[k]? = some l) : (lv.take (k + 1)).flatten = (lv.take k).flatten ++ l := by
  obtain ⟨h1, h2⟩ := List.getElem?_eq_some_iff.1 h
  rw [List.take_succ_eq_append_getElem h1, h2, List.flatten_append, List.flatten_singleton]
end Go.Proofs.Ytlfhcjhbnakamaa.Rk
/-
  Contracts of the library at this program, laid by the kit's own tool (in plain words).
-/
namespace Go.Proofs
open Go.Shelf
def Ytlfhcjhbnakamaa.laysNm220_ren : Go.Shelf.Ren := ⟨fun | 20 => 83 | n => n, fun | 22 => 35 | 3 => 3 | 4 => 4 | 0 => 0 | n => n, fun | n => n⟩
theorem Ytlfhcjhbnakamaa.laysNm220 : Go.Proofs.Lays2.n20 Try.prog Ytlfhcjhbnakamaa.laysNm220_ren := {
  mixed := by kernel_rfl
  f20 := Try.func83.trans (congrArg some (by kernel_rfl))
  t0 := Try.underlying0
  a0 := Try.isAgg0
  z0 := Try.sizeOf0
  v0 := Try.zeroValue0
  t3 := Try.underlying3
  a3 := Try.isAgg3
  z3 := Try.sizeOf3
  v3 := Try.zeroValue3
  t4 := Try.underlying4
  a4 := Try.isAgg4
  z4 := Try.sizeOf4
  v4 := Try.zeroValue4
  t22 := Try.underlying35
  a22 := Try.isAgg35
  z22 := Try.sizeOf35
  v22 := Try.zeroValue35
  i3 := by kernel_rfl }
open Go.RowKit Go.Lib Go.Sort in
theorem Ytlfhcjhbnakamaa.slices_Compact_int (blk off cap : Nat) (zs : List Int) (w : World) (hH : Holds (Value.int .i64) w blk off zs.toArray) (hsz : zs.length ≤ 9223372036854775807) (hcap : zs.length ≤ cap) :
    Calls Try.prog 83 #[.slice (some ⟨blk, off, none⟩) zs.length cap] w fun e w' => e = .returned (.slice (some ⟨blk, off, none⟩) (Lib.compact zs).length cap) ∧ ∃ q, w' = putRow (Value.int .i64) (Sort.ahead w q) blk off (Lib.compact zs ++ List.replicate (zs.length - (Lib.compact zs).length) 0).toArray := Any.slices_Compact_int Ytlfhcjhbnakamaa.laysNm220 blk off cap zs w hH hsz hcap
open Go.RowKit Go.Lib Go.Sort in
theorem Ytlfhcjhbnakamaa.slices_Compact_int_empty (a : Option Addr) (cap : Nat) (w : World) :
    Calls Try.prog 83 #[.slice a 0 cap] w fun e w' => e = .returned (.slice a 0 cap) ∧ w' = w := Any.slices_Compact_int_empty Ytlfhcjhbnakamaa.laysNm220 a cap w
def Ytlfhcjhbnakamaa.laysNm225_ren : Go.Shelf.Ren := ⟨fun | 25 => 54 | 31 => 78 | 32 => 84 | 37 => 110 | n => n, fun | 22 => 35 | 3 => 3 | 4 => 4 | 40 => 76 | 0 => 0 | n => n, fun | n => n⟩
theorem Ytlfhcjhbnakamaa.laysNm225 : Go.Proofs.Lays2.n25 Try.prog Ytlfhcjhbnakamaa.laysNm225_ren := {
  mixed := by kernel_rfl
  f25 := Try.func54.trans (congrArg some (by kernel_rfl))
  f31 := Try.func78.trans (congrArg some (by kernel_rfl))
  f32 := Try.func84.trans (congrArg some (by kernel_rfl))
  f37 := Try.func110.trans (congrArg some (by kernel_rfl))
  t0 := Try.underlying0
  a0 := Try.isAgg0
  z0 := Try.sizeOf0
  v0 := Try.zeroValue0
  t3 := Try.underlying3
  a3 := Try.isAgg3
  z3 := Try.sizeOf3
  v3 := Try.zeroValue3
  t4 := Try.underlying4
  a4 := Try.isAgg4
  z4 := Try.sizeOf4
  v4 := Try.zeroValue4
  t22 := Try.underlying35
  a22 := Try.isAgg35
  z22 := Try.sizeOf35
  v22 := Try.zeroValue35
  t40 := Try.underlying76
  a40 := Try.isAgg76
  z40 := Try.sizeOf76
  v40 := Try.zeroValue76 }
open Go.RowKit Go.Lib in
theorem Ytlfhcjhbnakamaa.slices_BinarySearch_int (b off n c : Nat) (zs : List Int) (x : Int) (w : World) (hz : n ≤ zs.length) (hbig : n < 4611686018427387904) (hc : ∀ j, j < zs.length → w.cell? ⟨b, off + j, none⟩ = some (.int .i64 (zs.getD j 0))) (hs : (zs.take n).Pairwise (· ≤ ·)) :
    Calls Try.prog 54 #[.slice (some ⟨b, off, none⟩) n c, .int .i64 x] w fun e w' => e = .returned (.tuple #[.int .i64 ((zs.take n).countP (· < x) : Nat), .bool ((zs.take n).contains x)]) ∧ ∃ q, w' = w.drewN q := Any.slices_BinarySearch_int Ytlfhcjhbnakamaa.laysNm225 b off n c zs x w hz hbig hc hs
open Go.RowKit Go.Lib in
theorem Ytlfhcjhbnakamaa.slices_BinarySearch_int_empty (a : Option Addr) (c : Nat) (x : Int) (w : World) :
    Calls Try.prog 54 #[.slice a 0 c, .int .i64 x] w fun e w' => e = .returned (.tuple #[.int .i64 0, .bool false]) ∧ w' = w := Any.slices_BinarySearch_int_empty Ytlfhcjhbnakamaa.laysNm225 a c x w
def Ytlfhcjhbnakamaa.laysSlM5_f24_ren : Go.Shelf.Ren := ⟨fun | 5 => 24 | 8 => 52 | 7 => 51 | 19 => 81 | 20 => 82 | 10 => 72 | 11 => 73 | 12 => 74 | 13 => 75 | 14 => 76 | 15 => 77 | 16 => 78 | 17 => 79 | 18 => 80 | 30 => 105 | 31 => 106 | 32 => 107 | 33 => 108 | 34 => 109 | 35 => 110 | 40 => 118 | n => n, fun | 23 => 35 | 25 => 3 | 3 => 3 | 32 => 76 | 22 => 35 | 0 => 0 | 44 => 117 | 46 => 22 | 4 => 4 | 36 => 110 | 35 => 109 | 41 => 82 | 5 => 5 | 9 => 9 | 53 => 133 | 57 => 137 | 63 => 143 | 64 => 144 | n => n, fun | n => n⟩
theorem Ytlfhcjhbnakamaa.laysSlM5_f24 : Go.Proofs.SlLaysM.n5 Try.prog Ytlfhcjhbnakamaa.laysSlM5_f24_ren := {
  mixed := by kernel_rfl
  f5 := ⟨Try.f24.name, by decide, Try.func24.trans (congrArg some (by kernel_rfl))⟩
  f7 := ⟨Try.f51.name, by decide, Try.func51.trans (congrArg some (by kernel_rfl))⟩
  f8 := Try.func52.trans (congrArg some (by kernel_rfl))
  f10 := ⟨Try.f72.name, by decide, Try.func72.trans (congrArg some (by kernel_rfl))⟩
  f11 := ⟨Try.f73.name, by decide, Try.func73.trans (congrArg some (by kernel_rfl))⟩
  f12 := ⟨Try.f74.name, by decide, Try.func74.trans (congrArg some (by kernel_rfl))⟩
  f13 := ⟨Try.f75.name, by decide, Try.func75.trans (congrArg some (by kernel_rfl))⟩
  f14 := ⟨Try.f76.name, by decide, Try.func76.trans (congrArg some (by kernel_rfl))⟩
  f15 := ⟨Try.f77.name, by decide, Try.func77.trans (congrArg some (by kernel_rfl))⟩
  f16 := ⟨Try.f78.name, by decide, Try.func78.trans (congrArg some (by kernel_rfl))⟩
  f17 := ⟨Try.f79.name, by decide, Try.func79.trans (congrArg some (by kernel_rfl))⟩
  f18 := ⟨Try.f80.name, by decide, Try.func80.trans (congrArg some (by kernel_rfl))⟩
  f19 := Try.func81.trans (congrArg some (by kernel_rfl))
  f20 := Try.func82.trans (congrArg some (by kernel_rfl))
  f30 := ⟨Try.f105.name, by decide, Try.func105.trans (congrArg some (by kernel_rfl))⟩
  f31 := Try.func106.trans (congrArg some (by kernel_rfl))
  f32 := Try.func107.trans (congrArg some (by kernel_rfl))
  f33 := ⟨Try.f108.name, by decide, Try.func108.trans (congrArg some (by kernel_rfl))⟩
  f34 := ⟨Try.f109.name, by decide, Try.func109.trans (congrArg some (by kernel_rfl))⟩
  f35 := ⟨Try.f110.name, by decide, Try.func110.trans (congrArg some (by kernel_rfl))⟩
  f40 := ⟨Try.f118.name, by decide, Try.func118.trans (congrArg some (by kernel_rfl))⟩
  t0 := Try.underlying0
  a0 := Try.isAgg0
  z0 := Try.sizeOf0
  v0 := Try.zeroValue0
  t3 := Try.underlying3
  a3 := Try.isAgg3
  z3 := Try.sizeOf3
  v3 := Try.zeroValue3
  t4 := Try.underlying4
  a4 := Try.isAgg4
  z4 := Try.sizeOf4
  v4 := Try.zeroValue4
  t5 := Try.underlying5
  a5 := Try.isAgg5
  z5 := Try.sizeOf5
  v5 := Try.zeroValue5
  t9 := Try.underlying9
  a9 := Try.isAgg9
  z9 := Try.sizeOf9
  v9 := Try.zeroValue9
  t22 := Try.underlying35
  a22 := Try.isAgg35
  z22 := Try.sizeOf35
  v22 := Try.zeroValue35
  t23 := Try.underlying35
  a23 := Try.isAgg35
  z23 := Try.sizeOf35
  v23 := Try.zeroValue35
  t25 := Try.underlying3
  a25 := Try.isAgg3
  z25 := Try.sizeOf3
  v25 := Try.zeroValue3
  t32 := Try.underlying76
  a32 := Try.isAgg76
  z32 := Try.sizeOf76
  v32 := Try.zeroValue76
  t35 := Try.underlying109
  a35 := Try.isAgg109
  z35 := Try.sizeOf109
  v35 := Try.zeroValue109
  t36 := Try.underlying110
  a36 := Try.isAgg110
  z36 := Try.sizeOf110
  v36 := Try.zeroValue110
  t41 := Try.underlying82
  a41 := Try.isAgg82
  z41 := Try.sizeOf82
  v41 := Try.zeroValue82
  t44 := Try.underlying117
  a44 := Try.isAgg117
  z44 := Try.sizeOf117
  v44 := Try.zeroValue117
  t46 := Try.underlying22
  a46 := Try.isAgg22
  z46 := Try.sizeOf22
  v46 := Try.zeroValue22
  t53 := Try.underlying133
  a53 := Try.isAgg133
  z53 := Try.sizeOf133
  v53 := Try.zeroValue133
  t57 := Try.underlying137
  a57 := Try.isAgg137
  z57 := Try.sizeOf137
  v57 := Try.zeroValue137
  t63 := Try.underlying143
  a63 := Try.isAgg143
  z63 := Try.sizeOf143
  v63 := Try.zeroValue143
  t64 := Try.underlying144
  a64 := Try.isAgg144
  z64 := Try.sizeOf144
  v64 := Try.zeroValue144 }
open Go.Sort Go.RowKit in
theorem Ytlfhcjhbnakamaa.slices_Sort_int_int (blk off cap : Nat) (zs : List Int) (w : World) (hH : Holds (Value.int .i64) w blk off zs.toArray) (hblk : blk < w.heap.size) (hsz : zs.length < 4611686018427387904) :
    Calls Try.prog 24 #[.slice (some ⟨blk, off, none⟩) zs.length cap] w fun e w' =>
      e = .returned (.tuple #[]) ∧ ∃ n os, w' = grow (putRow (Value.int .i64) (Sort.ahead w n) blk off (zs.mergeSort fun x y => decide (x ≤ y)).toArray) os := AnyM.slices_Sort_int Ytlfhcjhbnakamaa.laysSlM5_f24 blk off cap zs w hH hblk hsz
open Go.RowKit Go.Sort in
theorem Ytlfhcjhbnakamaa.slices_Sort_int_none_int (p : Option Addr) (cap : Nat) (w : World) :
    Calls Try.prog 24 #[.slice p 0 cap] w fun e w' => e = .returned (.tuple #[]) ∧ w' = w := AnyM.slices_Sort_int_none Ytlfhcjhbnakamaa.laysSlM5_f24 p cap w
end Go.Proofs
/-
  slices.Sort at []int, of a row of the call's own.
-/
namespace Go.Proofs.Ytlfhcjhbnakamaa.SortI
open Go.RowKit Go.Gh
set_option linter.unusedVariables false
theorem infoInt : (Try.prog.info? 3).map (fun i => (i.zero, i.size, i.bytes)) = some (some (.int .i64 0), 1, 8) := by kernel_rfl
theorem elInt : Elem Try.prog 35 3 1 8 := elem_of Try.underlying35 infoInt rfl (by decide)
theorem ints_one (l : List Int) : ∀ u ∈ l.map (Value.int .i64), u.oneCell' = true := by
  intro u hu; simp at hu; obtain ⟨z, _, rfl⟩ := hu; rfl
theorem grownBy_self (w : World) (r : Option Nat) : w.grownBy w r := ⟨rfl, rfl, rfl, Nat.le_refl _, fun k _ _ => rfl⟩
theorem sort_own (v : Value) (n B : Nat) (l : List Int) (w : World) (h : w.ownsRow B 3 1 v n (l.map (Value.int .i64))) (hn : n < 4611686018427387904) :
    Calls Try.prog 24 #[v] w fun e w' => e = .returned (.tuple #[]) ∧ w'.ownsRow B 3 1 v n ((l.mergeSort fun x y => decide (x ≤ y)).map (Value.int .i64)) ∧ w.grownBy w' v.ownBlock := by
  have hl : l.length = n := by simpa using h.1
  have h0 := h
  rcases h.2 with ⟨rfl, hn0⟩ | ⟨g, cap, cur, rfl, hb, hg, hn1, hm, hs, ht⟩
  · refine (slices_Sort_int_none_int none 0 w).mono ?_
    rintro e w' ⟨rfl, rfl⟩
    have hln : l = [] := List.length_eq_zero_iff.1 (by rw [hl, hn0])
    subst hln
    exact ⟨rfl, by simpa using h0, grownBy_self _ _⟩
  · have h1 := slices_Sort_int_int g 0 cap l w (holds_of_blockI hg (by rw [hl]; simpa using ht)) (Array.getElem?_eq_some_iff.1 hg).1 (by omega)
    rw [hl] at h1
    refine h1.mono ?_
    rintro e w' ⟨rfl, q, os, rfl⟩
    refine ⟨rfl, ?_, grownBy_sortedI _⟩
    have h2 := ownsRow_sortedI (n := q) (os := os) (e := 3) (ts := l.mergeSort fun x y => decide (x ≤ y)) (ss := l) (List.length_mergeSort _) hb hg (by omega) hm hs
    rw [hl] at h2
    exact h2
theorem sorted_le (l : List Int) : (l.mergeSort fun x y => decide (x ≤ y)).Pairwise (· ≤ ·) := by
  have h := List.pairwise_mergeSort (le := fun x y : Int => decide (x ≤ y)) (fun a b c h1 h2 => by simp at h1 h2 ⊢; omega) (fun a b => by simp; omega) l
  exact h.imp (fun h => by simpa using h)
theorem own_cut {w : World} {B size g n m cap : Nat} {e : TypeId} {xs : List Value} (h : w.ownsRow B e size (.slice (some ⟨g, 0, none⟩) n cap) n xs) (hm : m ≤ n) : w.ownsRow B e size (.slice (some ⟨g, 0, none⟩) m cap) m (xs.take (m * size)) := by
  rcases h.2 with ⟨e1, _⟩ | ⟨g', cap', cur, e1, hb, hg, hnc, hcm, hsz, ht⟩
  · simp at e1
  · simp at e1
    obtain ⟨rfl, rfl⟩ := e1
    have hms : m * size ≤ n * size := Nat.mul_le_mul_right _ hm
    refine ⟨by rw [List.length_take, h.1]; omega, Or.inr ⟨g, cap, cur, rfl, hb, hg, by omega, hcm, hsz, ?_⟩⟩
    rw [← ht, List.take_take, Nat.min_eq_left hms]
theorem grow_none (w : World) : Go.Sort.grow w #[] = w := by simp [Go.Sort.grow]
theorem compact_own (v : Value) (n B : Nat) (l : List Int) (w : World) (h : w.ownsRow B 3 1 v n (l.map (Value.int .i64))) (hn : n < 4611686018427387904) :
    Calls Try.prog 83 #[v] w fun e w' => ∃ v', e = .returned v' ∧ w'.ownsRow B 3 1 v' (Lib.compact l).length ((Lib.compact l).map (Value.int .i64)) ∧ w.grownBy w' v.ownBlock := by
  have hl : l.length = n := by simpa using h.1
  have h0 := h
  rcases h.2 with ⟨rfl, hn0⟩ | ⟨g, cap, cur, rfl, hb, hg, hn1, hm, hs, ht⟩
  · refine (slices_Compact_int_empty none 0 w).mono ?_
    rintro e w' ⟨rfl, rfl⟩
    have hln : l = [] := List.length_eq_zero_iff.1 (by rw [hl, hn0])
    subst hln
    exact ⟨_, rfl, World.ownsRow_nil _ _ _ _, grownBy_self _ _⟩
  · have h1 := slices_Compact_int g 0 cap l w (holds_of_blockI hg (by rw [hl]; simpa using ht)) (by omega) (by omega)
    rw [hl] at h1
    have hcl := Go.Gh.compact_len l
    refine h1.mono ?_
    rintro e w' ⟨rfl, q, rfl⟩
    have hlen : (Lib.compact l ++ List.replicate (n - (Lib.compact l).length) 0).length = l.length := by
      rw [List.length_append, List.length_replicate]
      omega
    have h2 := ownsRow_sortedI (n := q) (os := #[]) (e := 3) (ts := Lib.compact l ++ List.replicate (n - (Lib.compact l).length) 0) (ss := l) hlen hb hg (by omega) hm hs
    have h3 := grownBy_sortedI (w := w) (g := g) (n := q) (os := #[]) (Lib.compact l ++ List.replicate (n - (Lib.compact l).length) 0).toArray
    rw [grow_none] at h2 h3
    have h4 := own_cut h2 hcl
    rw [Nat.mul_one, ← List.map_take, List.take_left] at h4
    exact ⟨_, rfl, h4, h3⟩
end Go.Proofs.Ytlfhcjhbnakamaa.SortI
/-
  Lists of numbers at []int: the walks of slices.Clone, Equal, Grow, Concat, Index, Contains.
-/
namespace Go.Proofs.Ytlfhcjhbnakamaa.Ix
open Go.RowKit Go.Gh Go.Proofs.Ytlfhcjhbnakamaa.Rk
set_option linter.unusedVariables false
theorem cloneI_any (v : Value) (l : List Int) (w : World) (hv : Ns w v l) (hn : l.length ≤ 1000000000000) :
    Calls Try.prog 22 #[v] w fun e w' => ∃ v', e = .returned v' ∧ w'.ownsRow w.heap.size 3 1 v' l.length (l.map (Value.int .i64)) ∧ Below w.heap.size w w' := by
  unfold Ns at hv
  obtain ⟨n, hm⟩ : ∃ n, l.length = n := ⟨_, rfl⟩
  rw [hm] at hv hn ⊢
  have HM := Lib.hid hm
  obtain ⟨ao, c, rfl, hnc, hc, hlen⟩ := hv.shape
  have HN := Lib.hid hn
  clear hn hm
  cases ao with
  | none =>
    have hn0 : n = 0 := by
      obtain ⟨ao', cap, h1, h2, _, h4, _, h6⟩ := hv
      simp at h1
      have := h4 h1.1.symm
      omega
    subst hn0
    have hl : l = [] := List.length_eq_zero_iff.1 HM.out
    subst hl
    have he := Lib.run_eql_slice_nil (P := Try.prog) w 35 3 none 0 c 0 0 Try.underlying35
    go_enter Try.func22, Try.ntmps22
    go_wp2_with fail
    go_ret
    exact ⟨_, rfl, World.ownsRow_nil _ _ _ _, Below.refl _ _⟩
  | some a =>
    have he := Lib.run_eql_slice_nil (P := Try.prog) w 35 3 (some a) n c 0 0 Try.underlying35
    have ho := own_build (e := 3) (size := 1) (n := 0) w [] (Nat.le_refl _) rfl (by decide)
    have hs2 := hv.alloc (Obj.cells ([] : List Value).toArray 3)
    clear hlen
    go_enter Try.func22, Try.ntmps22
    go_wp2_with (at_builtin; refine appendS SortI.elInt rfl _ _ rfl ho ((Below.refl _ _).alloc (Nat.le_refl _) _) ?c1 rfl rfl hs2 (SortI.ints_one _) ?c2 ?c3 ?_)
    case c1 => simp
    case c2 => have := HN.out; omega
    case c3 => have := HN.out; omega
    intro v' w1 hown' hbel' _
    go_wp2
    go_ret
    exact ⟨v', rfl, by simpa using hown', hbel'⟩
set_option maxRecDepth 100000 in
theorem equalI_any (v u : Value) (l : List Int) (w : World) (hs : Ns w v l) (ht : Ns w u l) :
    Calls Try.prog 26 #[v, u] w fun e w' => e = .returned (.bool true) ∧ ∃ q, w' = w.drewN q := by
  obtain ⟨ao, c, rfl, hnc, hc, _⟩ := hs.shape
  obtain ⟨bo, d, rfl, hod, hd, _⟩ := ht.shape
  obtain ⟨n, hm⟩ : ∃ n, l.length = n := ⟨_, rfl⟩
  have HS := Lib.hid hs
  have HT := Lib.hid ht
  have HM := Lib.hid hm
  rw [hm] at hnc hod HS HT ⊢
  clear hs ht hm
  go_enter Try.func26, Try.ntmps26
  go_wp2_with fail
  go_loopw [5, 13] (fun _ i wr => ∃ k : Nat, k ≤ n ∧ i = .int .i64 k ∧ ∃ q, wr = w.drewN q) (fun _ i _ => n - (intOf i).toNat)
  case atStart => exact ⟨0, by omega, rfl, 0, rfl⟩
  case round =>
    obtain ⟨k, hk, rfl, q, hq⟩ := hrel
    have hbr : Below w.heap.size w wr := by rw [hq]; exact below_drewN (Below.refl _ _) _
    have HQ := Lib.hid hq
    clear hq
    by_cases hlt : k < n
    · obtain ⟨z, hz⟩ : ∃ z, l[k]? = some z := ⟨_, List.getElem?_eq_getElem (by rw [HM.out]; exact hlt)⟩
      obtain ⟨b, off, rfl, hc1⟩ := (HS.out.below hbr).at hz
      obtain ⟨b', off', rfl, hc2⟩ := (HT.out.below hbr).at hz
      have hzz : (z != z) = false := by simp
      clear hz
      go_wp2_with fail
      go_quiet (fail)
      go_wp2
      go_roundw
      case rel => exact ⟨k + 1, by omega, by go_num, q + nq, by rw [HQ.out]; exact drew_add _ _ _⟩
      case measure => simp [intOf]; omega
    · have hkn : k = n := by omega
      subst hkn
      go_wp2_with fail
      go_ret
      exact ⟨rfl, q, HQ.out⟩
set_option maxHeartbeats 2000000 in
set_option maxRecDepth 100000 in
theorem growI_any (n : Nat) (w : World) (hn : n ≤ 1000000000) :
    Calls Try.prog 85 #[.slice none 0 0, .int .i64 n] w fun e w' => ∃ v', e = .returned v' ∧ w'.ownsRow w.heap.size 3 1 v' 0 [] ∧ Below w.heap.size w w' := by
  rcases Nat.eq_zero_or_pos n with rfl | hpos
  · go_enter Try.func85, Try.ntmps85
    go_wp2_with fail
    go_ret
    exact ⟨_, rfl, World.ownsRow_nil _ _ _ _, Below.refl _ _⟩
  · obtain ⟨i0, z0, hi0, hz0, hs0, hby0, hzs0⟩ := SortI.elInt.info
    have hr : ∀ ty, (Builtin.append_ #[35, 3] ty #[.slice none 0 0, .int .i64 n]).run Try.prog w = .ok (.slice (some ⟨w.heap.size, 0, none⟩) n (grownCap w n 0 3)) (w.drew.alloc (.cells (Builtin.zeroCells z0.cells n ++ Builtin.zeroCells z0.cells (grownCap w n 0 3 - n)) 3)) :=
      fun ty => Lib.run_append_nil_zeros w 35 3 ty 3 i0 z0 .i64 .i64 SortI.elInt.und Try.underlying3 hi0 hz0 n hpos (by omega) (by omega) (by rw [hby0]; omega)
    obtain ⟨hrow, -⟩ := zeros_row (w := w) (e := 3) (k := 1) (n := n) (i := 0) (B := w.heap.size) (old := 0) (z := z0) (xs := []) (by rw [hzs0]) rfl (Nat.zero_le _) hpos (Nat.le_refl _) (by unfold maxLen; omega)
    rw [Nat.sub_zero, show ([] : List Value).toArray ++ Builtin.zeroCells z0.cells n = Builtin.zeroCells z0.cells n from by simp] at hrow
    have hown := own_none hrow
    have hGn := grownCap_ge w n 0 3
    have hG63 := grownCap_le_maxLen w n 0 3 (by unfold maxLen; omega)
    unfold maxLen at hG63
    obtain ⟨W1, hW1⟩ : ∃ W1, W1 = w.drew.alloc (.cells (Builtin.zeroCells z0.cells n ++ Builtin.zeroCells z0.cells (grownCap w n 0 3 - n)) 3) := ⟨_, rfl⟩
    have hb1 : Below w.heap.size w W1 := by rw [hW1]; exact (Below.refl _ _).drew.alloc (Nat.le_refl _) _
    rw [← hW1] at hr hown
    obtain ⟨G, hG⟩ : ∃ G, G = grownCap w n 0 3 := ⟨_, rfl⟩
    rw [← hG] at hr hown hGn hG63
    have HO := Lib.hid hown
    have HR := Lib.hid hr
    clear hrow hown hW1 hG hr
    go_enter Try.func85, Try.ntmps85
    go_wp2_with (at_builtin; refine wpList_append_zeros rfl _ _ rfl rfl rfl HR.out ?_)
    go_ret
    exact ⟨_, rfl, HO.out, hb1⟩
theorem flatI_len : ∀ {lv : List (List Int)}, (∀ l ∈ lv, l.length ≤ 1048576) → lv.flatten.length ≤ 1048576 * lv.length
  | [], _ => by simp
  | l :: lv, h => by
    have h1 := flatI_len (lv := lv) (fun x hx => h x (by simp [hx]))
    have h2 := h l (by simp)
    rw [List.flatten_cons, List.length_append, List.length_cons]
    omega
set_option maxHeartbeats 4000000 in
set_option maxRecDepth 100000 in
theorem concatI_any (u : Value) (lv : List (List Int)) (w : World) (hu : Sp LvR 1 w u lv) (h64 : ∀ l ∈ lv, l.length ≤ 1048576) (hL20 : lv.length ≤ 20) :
    Calls Try.prog 55 #[u] w fun e w' => ∃ v', e = .returned v' ∧ w'.ownsRow w.heap.size 3 1 v' lv.flatten.length (lv.flatten.map (Value.int .i64)) ∧ Below w.heap.size w w' := by
  obtain ⟨bo, d, rfl, hod, hd⟩ := hu.shape
  obtain ⟨L, hL⟩ : ∃ n, lv.length = n := ⟨_, rfl⟩
  have HU := Lib.hid hu
  rw [hL] at HU hod hL20 ⊢
  have HL := Lib.hid hL
  have H64 := Lib.hid h64
  have HFL : Hid (∀ k, ((lv.take k).flatten).length ≤ 1048576 * 20) := Lib.hid (fun k => by
    have h1 := flatI_len (lv := lv.take k) (fun l hl => h64 l (List.mem_of_mem_take hl))
    rw [List.length_take] at h1
    omega)
  clear hL hu h64
  go_enter Try.func55, Try.ntmps55
  go_wp2_with fail
  go_loopw [3, 11] (fun y i wr => ∃ k : Nat, k ≤ L ∧ i = .int .i64 k ∧ y = .int .i64 ((lv.take k).flatten.length : Nat) ∧ w = wr) (fun _ i _ => L - (intOf i).toNat)
  case atStart => exact ⟨0, Nat.zero_le _, rfl, rfl, rfl⟩
  case round =>
    obtain ⟨k, hk, rfl, rfl, rfl⟩ := hrel
    by_cases hlt : k < L
    · obtain ⟨l, hl⟩ : ∃ l, lv[k]? = some l := ⟨_, List.getElem?_eq_getElem (by rw [HL.out]; exact hlt)⟩
      obtain ⟨g, off, cs, rfl, ⟨t, rfl, hns⟩, _, hck⟩ := HU.out.get hl
      have c0 := hck 0 _ rfl
      rw [Nat.add_zero, Nat.mul_one] at c0
      obtain ⟨lo, lc, rfl, hlc, hlc2, -⟩ := hns.shape
      have hf := flat_take hl
      have h1 := HFL.out k
      have h2 := HFL.out (k + 1)
      obtain ⟨p, hp⟩ : ∃ p, (lv.take k).flatten.length = p := ⟨_, rfl⟩
      obtain ⟨m, hm⟩ : ∃ m, l.length = m := ⟨_, rfl⟩
      have HF : Hid ((lv.take (k + 1)).flatten.length = p + m) := Lib.hid (by rw [hf, List.length_append, hp, hm])
      rw [hf, List.length_append] at h2
      rw [hp] at h1 h2 ⊢
      rw [hm] at h2 hlc c0
      clear hck hl hns hf hp hm
      go_wp2_with fail
      go_roundw
      case rel => exact ⟨k + 1, by omega, by go_num, by rw [HF.out]; go_num, by first | rfl | trivial⟩
      case measure => simp [intOf]; omega
    · have hkL : k = L := by omega
      subst hkL
      have hta : lv.take k = lv := List.take_of_length_le (by rw [HL.out]; exact Nat.le_refl _)
      have h1 := HFL.out k
      rw [hta] at h1 ⊢
      obtain ⟨p, hp⟩ : ∃ p, lv.flatten.length = p := ⟨_, rfl⟩
      have HP := Lib.hid hp
      rw [hp] at h1 ⊢
      clear hta hp
      go_wp2_with fail
      refine (growI_any p _ (by omega)).mono ?_
      rintro e w1 ⟨v1, rfl, hown1, hb1⟩
      have HO1 := Lib.hid hown1
      have HB1 := Lib.hid hb1
      clear hown1 hb1
      go_wp2_with fail
      go_loopw [6, 27] (fun v i wr => ∃ j : Nat, j ≤ k ∧ i = .int .i64 j ∧ Hid (wr.ownsRow w.heap.size 3 1 v (lv.take j).flatten.length ((lv.take j).flatten.map (Value.int .i64))) ∧ Below w.heap.size w wr) (fun _ i _ => k - (intOf i).toNat)
      case atStart => exact ⟨0, Nat.zero_le _, rfl, HO1, HB1.out⟩
      case round =>
        obtain ⟨j, hj, rfl, HO, hbr⟩ := hrel
        obtain ⟨uo, uc, rfl, huc, -, -⟩ := own_shape HO.out
        by_cases hlt2 : j < k
        · obtain ⟨l, hl⟩ : ∃ l, lv[j]? = some l := ⟨_, List.getElem?_eq_getElem (by rw [HL.out]; exact hlt2)⟩
          obtain ⟨g, off, cs, rfl, ⟨t, rfl, hns⟩, _, hck⟩ := (HU.out.below lvR_mono hbr).get hl
          have c0 := hck 0 _ rfl
          rw [Nat.add_zero, Nat.mul_one] at c0
          obtain ⟨lo, lc, rfl, hlc, hlc2, -⟩ := hns.shape
          have hf := flat_take hl
          have h1 := HFL.out j
          have h2 := HFL.out (j + 1)
          rw [hf, List.length_append] at h2
          have HF : Hid ((lv.take (j + 1)).flatten = (lv.take j).flatten ++ l) := Lib.hid hf
          have HNS := Lib.hid hns
          have hown := HO.out
          clear hck hl hf hns
          go_wp2_with (at_builtin; refine wpList_append_gen SortI.elInt rfl _ _ rfl hown hbr rfl rfl HNS.out (SortI.ints_one _) ?c1 ?c2 hbr.size ?_)
          case c1 => omega
          case c2 => omega
          intro v7 w7 hown7 hbel7 _
          have HO7 : Hid (w7.ownsRow w.heap.size 3 1 v7 (lv.take (j + 1)).flatten.length ((lv.take (j + 1)).flatten.map (Value.int .i64))) := Lib.hid (by
            rw [HF.out, List.length_append, List.map_append]
            simpa using hown7)
          clear hown7 hown
          go_wp2_with fail
          go_roundw
          case rel => exact ⟨j + 1, by omega, by go_num, HO7, hbel7⟩
          case measure => simp [intOf]; omega
        · have hjk : j = k := by omega
          subst hjk
          have HO7 := HO.out
          rw [List.take_of_length_le (by rw [HL.out]; exact Nat.le_refl _), HP.out] at HO7
          have HO8 := Lib.hid HO7
          clear HO7
          go_wp2_with fail
          go_ret
          exact ⟨_, rfl, by first | exact HO8.out | (rw [List.take_of_length_le (by rw [HL.out]; exact Nat.le_refl _), HP.out]; exact HO8.out), hbr⟩
/-- Where a number stands first. -/
def IdxAt (l : List Int) (x i : Int) : Prop := (0 ≤ i ∧ x ∈ l) ∨ (i = -1 ∧ x ∉ l)
set_option maxRecDepth 100000 in
theorem indexI_any (v : Value) (l : List Int) (x : Int) (w : World) (hs : Ns w v l) :
    Calls Try.prog 50 #[v, .int .i64 x] w fun e w' => ∃ i, e = .returned (.int .i64 i) ∧ IdxAt l x i ∧ w' = w := by
  obtain ⟨ao, c, rfl, hnc, hc, _⟩ := hs.shape
  obtain ⟨n, hm⟩ : ∃ n, l.length = n := ⟨_, rfl⟩
  have HS := Lib.hid hs
  have HM := Lib.hid hm
  rw [hm] at hnc HS ⊢
  clear hs hm
  go_enter Try.func50, Try.ntmps50
  go_wp2_with fail
  go_loopw [5, 8] (fun _ i wr => ∃ k : Nat, k ≤ n ∧ i = .int .i64 k ∧ Hid (x ∉ l.take k) ∧ w = wr) (fun _ i _ => n - (intOf i).toNat)
  case atStart => exact ⟨0, by omega, rfl, Lib.hid (by simp), rfl⟩
  case round =>
    obtain ⟨k, hk, rfl, HX, rfl⟩ := hrel
    by_cases hlt : k < n
    · obtain ⟨z, hz⟩ : ∃ z, l[k]? = some z := ⟨_, List.getElem?_eq_getElem (by rw [HM.out]; exact hlt)⟩
      obtain ⟨b, off, rfl, hc1⟩ := HS.out.at hz
      by_cases hxz : x = z
      · have HF : Hid (IdxAt l x k) := Lib.hid (Or.inl ⟨by omega, by rw [hxz]; exact List.mem_of_getElem? hz⟩)
        have t1 : (x == z) = true := by rw [hxz]; simp
        clear hz hxz
        go_wp2_with fail
        go_ret
        exact ⟨_, rfl, HF.out, rfl⟩
      · have HX2 : Hid (x ∉ l.take (k + 1)) := Lib.hid (by
          obtain ⟨h1, h2⟩ := List.getElem?_eq_some_iff.1 hz
          rw [List.take_succ_eq_append_getElem h1, h2, List.mem_append]
          rintro (h | h)
          · exact HX.out h
          · exact hxz (by simpa using h))
        have t1 : (x == z) = false := beq_eq_false_iff_ne.2 hxz
        clear hz hxz
        go_wp2_with fail
        go_roundw
        case rel => exact ⟨k + 1, by omega, by go_num, HX2, by first | rfl | trivial⟩
        case measure => simp [intOf]; omega
    · have hkn : k = n := by omega
      have HF : Hid (IdxAt l x (-1)) := Lib.hid (Or.inr ⟨rfl, by
        have := HX.out
        rwa [List.take_of_length_le (by rw [HM.out, hkn]; exact Nat.le_refl _)] at this⟩)
      subst hkn
      go_wp2_with fail
      go_ret
      exact ⟨_, rfl, HF.out, rfl⟩
set_option maxRecDepth 100000 in
theorem containsI_any (v : Value) (l : List Int) (x : Int) (w : World) (D : Bool) (hs : Ns w v l) (hD : decide (x ∈ l) = D) :
    Calls Try.prog 23 #[v, .int .i64 x] w fun e w' => e = .returned (.bool D) ∧ w' = w := by
  obtain ⟨ao, c, rfl, -, -, _⟩ := hs.shape
  obtain ⟨n, hm⟩ : ∃ n, l.length = n := ⟨_, rfl⟩
  have HS := Lib.hid hs
  have HD := Lib.hid hD
  rw [hm] at HS ⊢
  clear hs hD hm
  go_enter Try.func23, Try.ntmps23
  go_wp2_with fail
  refine (indexI_any _ l x _ HS.out).mono ?_
  rintro e w1 ⟨i, rfl, hat, rfl⟩
  rcases hat with ⟨h1, h2⟩ | ⟨h1, h2⟩
  · have h3 : D = true := by rw [← HD.out]; exact decide_eq_true h2
    subst h3
    clear h2
    go_wp2_with fail
    go_ret
    exact ⟨rfl, rfl⟩
  · have h3 : D = false := by rw [← HD.out]; exact decide_eq_false h2
    subst h3
    subst h1
    clear h2
    go_wp2_with fail
    go_ret
    exact ⟨rfl, rfl⟩
end Go.Proofs.Ytlfhcjhbnakamaa.Ix
/-
  Sets of numbers: the walks of index.set, Or, Not.
-/
namespace Go.Proofs.Ytlfhcjhbnakamaa.Ix
open Go.RowKit Go.Gh Go.Proofs.Ytlfhcjhbnakamaa.Rk
set_option linter.unusedVariables false
set_option maxRecDepth 100000 in
theorem setI_any (v : Value) (l : List Int) (w : World) (hv : Ns w v l) (hn : l.length ≤ 1000000000) :
    Calls Try.prog 53 #[v] w fun e w' => ∃ v', e = .returned v' ∧ w'.ownsRow w.heap.size 3 1 v' (setL l).length ((setL l).map (Value.int .i64)) ∧ Below w.heap.size w w' := by
  obtain ⟨ao, c, rfl, -, -, _⟩ := hv.shape
  obtain ⟨n, hm⟩ : ∃ n, l.length = n := ⟨_, rfl⟩
  have HV := Lib.hid hv
  have HM := Lib.hid hm
  rw [hm] at HV hn ⊢
  clear hv hm
  go_enter Try.func53, Try.ntmps53
  go_wp2_with fail
  refine (cloneI_any _ l _ HV.out (by rw [HM.out]; omega)).mono ?_
  rw [HM.out]
  rintro e w1 ⟨v1, rfl, hown1, hb1⟩
  obtain ⟨a1, c1, rfl, -, -, -⟩ := own_shape hown1
  have HO1 := Lib.hid hown1
  have HB1 := Lib.hid hb1
  clear hown1 hb1
  go_wp2_with fail
  refine (SortI.sort_own _ n _ l _ HO1.out (by omega)).mono ?_
  rintro e w2 ⟨rfl, hown2, hg2⟩
  have HO2 := Lib.hid hown2
  have HB2 := Lib.hid (Below.grown HB1.out hg2 HB1.out.size (fun k hk => (HO1.out.lt k hk).1))
  clear hown2 hg2
  go_wp2_with fail
  refine (SortI.compact_own _ n _ _ _ HO2.out (by omega)).mono ?_
  rintro e w3 ⟨v3, rfl, hown3, hg3⟩
  have HB3 := Lib.hid (Below.grown HB2.out hg3 HB2.out.size (fun k hk => (HO2.out.lt k hk).1))
  obtain ⟨p, hp⟩ : ∃ p, (setL l).length = p := ⟨_, rfl⟩
  have hown4 : w3.ownsRow w.heap.size 3 1 v3 p ((setL l).map (Value.int .i64)) := by rw [← hp]; exact hown3
  obtain ⟨a3, c3, rfl, -, -, -⟩ := own_shape hown4
  have HO3 : Hid (w3.ownsRow w.heap.size 3 1 (.slice a3 p c3) (setL l).length ((setL l).map (Value.int .i64))) := Lib.hid (by rw [hp]; exact hown4)
  clear hown3 hown4 hg3 hp
  go_wp2_with fail
  go_ret
  exact ⟨_, rfl, HO3.out, HB3.out⟩
theorem sp_two {w : World} {va vb : Value} {a b : List Int} (ha : Ns w va a) (hb : Ns w vb b) : Sp LvR 1 (w.alloc (.cells #[va, vb] 35)) (.slice (some ⟨w.heap.size, 0, none⟩) 2 2) [a, b] :=
  ⟨[(a, [va]), (b, [vb])], rfl, fun p hp => by
    simp only [List.mem_cons, List.not_mem_nil, or_false] at hp
    rcases hp with rfl | rfl <;> rfl, fun p hp => by
    simp only [List.mem_cons, List.not_mem_nil, or_false] at hp
    rcases hp with rfl | rfl
    · exact ⟨_, rfl, ha.below ((Below.refl _ _).alloc (Nat.le_refl _) _)⟩
    · exact ⟨_, rfl, hb.below ((Below.refl _ _).alloc (Nat.le_refl _) _)⟩, sl_new w [va, vb] rfl (by decide)⟩
set_option maxRecDepth 100000 in
theorem Or_any (va vb : Value) (a b : List Int) (w : World) (ha : Ns w va a) (hb : Ns w vb b) (hla : a.length ≤ 1048576) (hlb : b.length ≤ 1048576) :
    Calls Try.prog 28 #[va, vb] w fun e w' => ∃ v', e = .returned v' ∧ Ns w' v' (setL (a ++ b)) ∧ Below w.heap.size w w' := by
  obtain ⟨ao, c, rfl, -, -, _⟩ := ha.shape
  obtain ⟨bo, d, rfl, -, -, _⟩ := hb.shape
  obtain ⟨n, hm⟩ : ∃ n, a.length = n := ⟨_, rfl⟩
  obtain ⟨m, hm2⟩ : ∃ n, b.length = n := ⟨_, rfl⟩
  rw [hm] at ha ⊢
  rw [hm2] at hb ⊢
  have HSP := Lib.hid (sp_two ha hb)
  have HLA := Lib.hid hla
  have HLB := Lib.hid hlb
  have hbA : Below w.heap.size w (w.alloc (.cells #[.slice ao n c, .slice bo m d] 35)) := (Below.refl _ _).alloc (Nat.le_refl _) _
  have HBA := Lib.hid hbA
  clear ha hb hla hlb hm hm2 hbA
  go_enter Try.func28, Try.ntmps28
  go_wp2_with fail
  refine (concatI_any _ [a, b] _ HSP.out (fun l hl => ?h1) (by simp)).mono ?_
  case h1 =>
    simp only [List.mem_cons, List.not_mem_nil, or_false] at hl
    rcases hl with rfl | rfl
    · exact HLA.out
    · exact HLB.out
  rw [show [a, b].flatten = a ++ b by simp]
  rintro e w1 ⟨v1, rfl, hown1, hb1⟩
  obtain ⟨z, hz⟩ : ∃ z, a ++ b = z := ⟨_, rfl⟩
  have hlz : z.length ≤ 1000000000 := by
    have := HLA.out
    have := HLB.out
    rw [← hz, List.length_append]
    omega
  rw [hz] at hown1
  have HNZ : Hid (Ns w1 v1 z) := Lib.hid (own_sl hown1)
  have HB1 := Lib.hid (HBA.out.trans (hb1.mono HBA.out.size))
  obtain ⟨ln, hln⟩ : ∃ ln, z.length = ln := ⟨_, rfl⟩
  rw [hln] at hown1
  obtain ⟨a1, c1, rfl, -, -, -⟩ := own_shape hown1
  have HLZ := Lib.hid hlz
  have HZ := Lib.hid hz
  clear hown1 hb1 hz hln hlz
  go_wp2_with fail
  refine (setI_any _ z _ HNZ.out HLZ.out).mono ?_
  rintro e w2 ⟨v2, rfl, hown2, hb2⟩
  have HN2 : Hid (Ns w2 v2 (setL z)) := Lib.hid (own_sl hown2)
  have HB2 := Lib.hid (HB1.out.trans (hb2.mono HB1.out.size))
  obtain ⟨p, hp⟩ : ∃ p, (setL z).length = p := ⟨_, rfl⟩
  rw [hp] at hown2
  obtain ⟨a3, c3, rfl, -, -, -⟩ := own_shape hown2
  clear hown2 hb2 hp
  go_wp2_with fail
  go_ret
  exact ⟨_, rfl, by rw [HZ.out]; exact HN2.out, HB2.out⟩
theorem bsI_any (v : Value) (l : List Int) (x : Int) (w : World) (D : Bool) (hv : Ns w v l) (hs : Ris l) (hn : l.length ≤ 1000000000) (hD : decide (x ∈ l) = D) :
    Calls Try.prog 54 #[v, .int .i64 x] w fun e w' => ∃ i, e = .returned (.tuple #[.int .i64 i, .bool D]) ∧ Below w.heap.size w w' := by
  obtain ⟨ao, cap, rfl, h2, h3, h4, h5, h6⟩ := hv
  rcases Nat.eq_zero_or_pos l.length with h0 | h0
  · have hl : l = [] := List.length_eq_zero_iff.1 h0
    subst hl
    have hDF : D = false := by rw [← hD]; simp
    subst hDF
    refine (slices_BinarySearch_int_empty ao cap x w).mono ?_
    rintro e w' ⟨rfl, rfl⟩
    exact ⟨_, rfl, Below.refl _ _⟩
  · obtain ⟨b, off, rfl, hc⟩ := h6 h0
    refine (slices_BinarySearch_int b off l.length cap l x w (Nat.le_refl _) (by omega) (fun j hj => ?_) ?_).mono ?_
    · refine hc j _ ?_
      rw [List.getElem?_map, List.getElem?_eq_getElem hj]
      simp [List.getD_eq_getElem?_getD, List.getElem?_eq_getElem hj]
    · rw [List.take_length]
      exact hs.imp (fun h => Int.le_of_lt h)
    · rintro e w' ⟨rfl, q, rfl⟩
      have hcx : l.contains x = D := by rw [← hD, Bool.eq_iff_iff]; simp
      rw [List.take_length, hcx]
      exact ⟨_, rfl, below_drewN (Below.refl _ _) _⟩
/-- A row of numbers of the call's own. -/
def OwI (B : Nat) (w : World) (v : Value) (l : List Int) : Prop := w.ownsRow B 3 1 v l.length (l.map (Value.int .i64))
set_option maxHeartbeats 2000000 in
set_option maxRecDepth 100000 in
theorem Not_own (n : Int) (v : Value) (a : List Int) (w : World) (hv : Ns w v a) (hla : a.length ≤ 1000000000) :
    Calls Try.prog 25 #[.int .i64 n, v] w fun e w' => ∃ v', e = .returned (.tuple #[v', .int .i64 (if n < 0 ∨ 1000 < n then 1 else 0)]) ∧ OwI w.heap.size w' v' (if n < 0 ∨ 1000 < n then [] else notTo a n.toNat) ∧ Below w.heap.size w w' := by
  obtain ⟨ao, c, rfl, -, -, _⟩ := hv.shape
  obtain ⟨m, hm⟩ : ∃ n, a.length = n := ⟨_, rfl⟩
  have HV := Lib.hid hv
  have HM := Lib.hid hm
  rw [hm] at HV hla ⊢
  clear hv hm
  by_cases hbad : n < 0 ∨ 1000 < n
  · rw [if_pos hbad, if_pos hbad]
    by_cases h1 : n < 0
    · clear hbad
      go_enter Try.func25, Try.ntmps25
      go_wp2_with fail
      go_ret2
      exact ⟨_, rfl, World.ownsRow_nil _ _ _ _, Below.refl _ _⟩
    · have h2 : 1000 < n := hbad.resolve_left h1
      clear hbad
      go_enter Try.func25, Try.ntmps25
      go_wp2_with fail
      go_ret2
      exact ⟨_, rfl, World.ownsRow_nil _ _ _ _, Below.refl _ _⟩
  rw [if_neg hbad, if_neg hbad]
  obtain ⟨N, hN⟩ : ∃ N : Nat, n = (N : Int) := ⟨n.toNat, by omega⟩
  subst hN
  rw [Int.toNat_natCast]
  have hN1 : N ≤ 1000 := by omega
  have hN0 : ¬ ((N : Int) < 0) := by omega
  have hN2 : ¬ (1000 < (N : Int)) := by omega
  clear hbad
  go_enter Try.func25, Try.ntmps25
  go_wp2_with fail
  refine (setI_any _ a _ HV.out (by rw [HM.out]; exact hla)).mono ?_
  rintro e w2 ⟨v2, rfl, hown2, hb2⟩
  obtain ⟨A, hA⟩ : ∃ A, setL a = A := ⟨_, rfl⟩
  have HNA : Hid (Ns w2 v2 A) := Lib.hid (by rw [← hA]; exact own_sl hown2)
  have HRA : Hid (Ris A) := Lib.hid (by rw [← hA]; exact ris_setL a)
  have HLA : Hid (A.length ≤ 1000000000) := Lib.hid (by have := setL_len a; rw [hA, HM.out] at this; omega)
  have HEQ : Hid (notTo a N = notTo A N) := Lib.hid (notTo_eq (fun x => by rw [← hA, mem_setL]) N)
  have HB2 := Lib.hid hb2
  obtain ⟨p, hp⟩ : ∃ p, A.length = p := ⟨_, rfl⟩
  rw [hA, hp] at hown2
  obtain ⟨a3, c3, rfl, -, -, -⟩ := own_shape hown2
  clear hown2 hb2 hp hA
  go_wp2_with fail
  go_loopw [6, 7, 8, 9, 19] (fun u _ _ _ i wr => ∃ j : Nat, j ≤ N ∧ i = .int .i64 j ∧ Hid (wr.ownsRow w2.heap.size 3 1 u (notTo A j).length ((notTo A j).map (Value.int .i64))) ∧ Below w2.heap.size w2 wr) (fun _ _ _ _ i _ => N - (intOf i).toNat)
  case atStart => exact ⟨0, Nat.zero_le _, rfl, Lib.hid (World.ownsRow_nil _ _ _ _), Below.refl _ _⟩
  case round =>
    obtain ⟨j, hj, rfl, HO, hbr⟩ := hrel
    obtain ⟨r, hr⟩ : ∃ r, (notTo A j).length = r := ⟨_, rfl⟩
    have hown := HO.out
    rw [hr] at hown
    have hrj : r ≤ j := by rw [← hr]; exact notTo_len A j
    have HR := Lib.hid hr
    obtain ⟨uo, uc, rfl, huc, -, -⟩ := own_shape hown
    clear hr
    by_cases hlt : j < N
    · have hlt' : (j : Int) < (N : Int) := by omega
      obtain ⟨D, hD⟩ : ∃ D, decide ((j : Int) ∈ A) = D := ⟨_, rfl⟩
      have HD := Lib.hid hD
      have HOW := Lib.hid hown
      clear hD hown HO
      go_wp2_with fail
      refine (bsI_any _ A j _ D (HNA.out.below hbr) HRA.out HLA.out HD.out).mono ?_
      rintro e w4 ⟨i4, rfl, hb4⟩
      have hown4 := own_below HOW.out hb4
      have hb5 := hbr.trans (hb4.mono hbr.size)
      clear hb4
      cases D with
      | true =>
        have HN2 : Hid (notTo A (j + 1) = notTo A j) := Lib.hid (by rw [notTo, if_pos (of_decide_eq_true HD.out)])
        have HO4 := Lib.hid hown4
        clear hown4
        go_wp2_with fail
        go_roundw
        case rel => exact ⟨j + 1, by omega, by go_num, by rw [HN2.out, HR.out]; exact HO4, hb5⟩
        case measure => simp [intOf]; omega
      | false =>
        have HN2 : Hid (notTo A (j + 1) = notTo A j ++ [(j : Int)]) := Lib.hid (by rw [notTo, if_neg (of_decide_eq_false HD.out)])
        go_wp2_with (at_builtin; refine append1 [.int .i64 j] SortI.elInt rfl _ _ rfl hown4 hb5 hb5.size rfl rfl rfl (one_all _ rfl) ?c4 ?c5 ?_)
        case c4 => omega
        case c5 => omega
        intro v7 w7 hown7 hbel7 _
        have HO7 : Hid (w7.ownsRow w2.heap.size 3 1 v7 (notTo A (j + 1)).length ((notTo A (j + 1)).map (Value.int .i64))) := Lib.hid (by
          rw [HN2.out, List.length_append, List.length_singleton, HR.out, List.map_append]
          exact hown7)
        clear hown7 hown4
        go_wp2_with fail
        go_roundw
        case rel => exact ⟨j + 1, by omega, by go_num, HO7, hbel7⟩
        case measure => simp [intOf]; omega
    · have hjN : j = N := by omega
      subst hjN
      have HF : Hid (OwI w.heap.size wr (.slice uo r uc) (notTo A j)) := Lib.hid (by unfold OwI; rw [HR.out]; exact own_mono hown HB2.out.size)
      have HBF := Lib.hid (HB2.out.trans (hbr.mono HB2.out.size))
      clear hown HO
      go_wp2_with fail
      go_ret2
      exact ⟨_, rfl, by rw [HEQ.out]; exact HF.out, HBF.out⟩
theorem Not_any (n : Int) (v : Value) (a : List Int) (w : World) (hv : Ns w v a) (hla : a.length ≤ 1000000000) :
    Calls Try.prog 25 #[.int .i64 n, v] w fun e w' => ∃ v', e = .returned (.tuple #[v', .int .i64 (if n < 0 ∨ 1000 < n then 1 else 0)]) ∧ Ns w' v' (if n < 0 ∨ 1000 < n then [] else notTo a n.toNat) ∧ Below w.heap.size w w' :=
  (Not_own n v a w hv hla).mono fun e w' ⟨v', h1, h2, h3⟩ => ⟨v', h1, own_sl h2, h3⟩
end Go.Proofs.Ytlfhcjhbnakamaa.Ix
