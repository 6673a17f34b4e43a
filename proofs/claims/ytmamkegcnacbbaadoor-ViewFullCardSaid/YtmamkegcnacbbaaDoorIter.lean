/-
  DERIVED: THE SHELF's CONTRACTS AT THIS DUMP, IN PLAIN WORDS (tools/lay-plain.mjs out of 'TrydIter.lean', which tools/lay-shelf.mjs wrote): THE SAME DECLARATIONS UNDER THE SAME NAMES: 'import', 'namespace', 'open', 'def', 'theorem' AND NOTHING ELSE: no command of the shelf's: FOR A HAND-IN. Each laying: the table of numbers ('.._ren') and one theorem, a field a fact of the dump's own or the kernel's comparison; each contract: ONE APPLICATION.
-/
import Derived.Ground.GgzProg
import Derived.Ground.SlgmProg
import Derived.Shelf.SlIter.Nil
import Derived.Shelf.SlIterI.Nil
import Derived.Shelf.SlMaps.Clone
import Derived.Shelf.SortM.Plain
import Derived.Shelf.SortM.SortNone
import Derived.Test.YtmamkegcnacbbaaDoorProg
namespace Go.Proofs
open Go.Shelf
def Tryd.keys_str_ren : Go.Shelf.Ren := ⟨fun | 7 => 36 | 10 => 51 | n => n, fun | 23 => 25 | 26 => 9 | 3 => 9 | 28 => 87 | 0 => 0 | 27 => 86 | 33 => 113 | 4 => 4 | n => n, fun | n => n⟩
theorem Tryd.keys_str : Go.Proofs.SlLaysZ.n7 Tryd.prog Tryd.keys_str_ren := {
  mixed := by kernel_rfl
  f7 := ⟨Tryd.f36.name, by decide, Tryd.func36.trans (congrArg some (by kernel_rfl))⟩
  f10 := ⟨Tryd.f51.name, by decide, Tryd.func51.trans (congrArg some (by kernel_rfl))⟩
  t0 := Tryd.underlying0
  a0 := Tryd.isAgg0
  z0 := Tryd.sizeOf0
  v0 := Tryd.zeroValue0
  t4 := Tryd.underlying4
  a4 := Tryd.isAgg4
  z4 := Tryd.sizeOf4
  v4 := Tryd.zeroValue4
  t23 := Tryd.underlying25
  a23 := Tryd.isAgg25
  z23 := Tryd.sizeOf25
  v23 := Tryd.zeroValue25
  t26 := Tryd.underlying9
  a26 := Tryd.isAgg9
  z26 := Tryd.sizeOf9
  v26 := Tryd.zeroValue9
  t27 := Tryd.underlying86
  a27 := Tryd.isAgg86
  z27 := Tryd.sizeOf86
  v27 := Tryd.zeroValue86
  t28 := Tryd.underlying87
  a28 := Tryd.isAgg87
  z28 := Tryd.sizeOf87
  v28 := Tryd.zeroValue87
  t33 := Tryd.underlying113
  a33 := Tryd.isAgg113
  z33 := Tryd.sizeOf113
  v33 := Tryd.zeroValue113 }
def Tryd.sorted_str_ren : Go.Shelf.Ren := ⟨fun | 6 => 35 | 8 => 50 | 9 => 44 | 11 => 66 | 13 => 61 | 12 => 60 | 23 => 84 | 24 => 85 | 14 => 75 | 15 => 76 | 16 => 77 | 17 => 78 | 18 => 79 | 19 => 80 | 20 => 81 | 21 => 82 | 22 => 83 | 25 => 90 | 26 => 91 | 27 => 92 | 28 => 93 | 29 => 94 | 30 => 95 | 31 => 108 | n => n, fun | 26 => 9 | 28 => 87 | 24 => 22 | 0 => 0 | 3 => 3 | 37 => 131 | 48 => 161 | 50 => 163 | 4 => 4 | 40 => 154 | 39 => 153 | 45 => 158 | 5 => 5 | 9 => 9 | 51 => 167 | 55 => 171 | 57 => 181 | 58 => 182 | 33 => 113 | n => n, fun | n => n⟩
theorem Tryd.sorted_str : Go.Proofs.SlLaysZ.n6 Tryd.prog Tryd.sorted_str_ren := {
  mixed := by kernel_rfl
  f6 := ⟨Tryd.f35.name, by decide, Tryd.func35.trans (congrArg some (by kernel_rfl))⟩
  f8 := ⟨Tryd.f50.name, by decide, Tryd.func50.trans (congrArg some (by kernel_rfl))⟩
  f11 := ⟨Tryd.f66.name, by decide, Tryd.func66.trans (congrArg some (by kernel_rfl))⟩
  t0 := Tryd.underlying0
  a0 := Tryd.isAgg0
  z0 := Tryd.sizeOf0
  v0 := Tryd.zeroValue0
  t24 := Tryd.underlying22
  a24 := Tryd.isAgg22
  z24 := Tryd.sizeOf22
  v24 := Tryd.zeroValue22
  t26 := Tryd.underlying9
  a26 := Tryd.isAgg9
  z26 := Tryd.sizeOf9
  v26 := Tryd.zeroValue9
  t28 := Tryd.underlying87
  a28 := Tryd.isAgg87
  z28 := Tryd.sizeOf87
  v28 := Tryd.zeroValue87
  i26 := by kernel_rfl }
def Tryd.sort_str_ren : Go.Shelf.Ren := ⟨fun | 6 => 44 | 8 => 61 | 9 => 60 | 19 => 84 | 20 => 85 | 21 => 75 | 22 => 76 | 23 => 77 | 24 => 78 | 25 => 79 | 26 => 80 | 27 => 81 | 28 => 82 | 29 => 83 | 36 => 90 | 31 => 91 | 32 => 92 | 37 => 93 | 38 => 94 | 39 => 95 | 41 => 108 | n => n, fun | 27 => 22 | 29 => 9 | 3 => 3 | 32 => 131 | 26 => 22 | 0 => 0 | 44 => 161 | 46 => 163 | 4 => 4 | 36 => 154 | 35 => 153 | 41 => 158 | 5 => 5 | 9 => 9 | 53 => 167 | 57 => 171 | 63 => 181 | 64 => 182 | n => n, fun | n => n⟩
theorem Tryd.sort_str : Go.Proofs.SlLaysM.n6 Tryd.prog Tryd.sort_str_ren := {
  mixed := by kernel_rfl
  f6 := ⟨Tryd.f44.name, by decide, Tryd.func44.trans (congrArg some (by kernel_rfl))⟩
  f8 := Tryd.func61.trans (congrArg some (by kernel_rfl))
  f9 := ⟨Tryd.f60.name, by decide, Tryd.func60.trans (congrArg some (by kernel_rfl))⟩
  f19 := Tryd.func84.trans (congrArg some (by kernel_rfl))
  f20 := Tryd.func85.trans (congrArg some (by kernel_rfl))
  f21 := ⟨Tryd.f75.name, by decide, Tryd.func75.trans (congrArg some (by kernel_rfl))⟩
  f22 := ⟨Tryd.f76.name, by decide, Tryd.func76.trans (congrArg some (by kernel_rfl))⟩
  f23 := ⟨Tryd.f77.name, by decide, Tryd.func77.trans (congrArg some (by kernel_rfl))⟩
  f24 := ⟨Tryd.f78.name, by decide, Tryd.func78.trans (congrArg some (by kernel_rfl))⟩
  f25 := ⟨Tryd.f79.name, by decide, Tryd.func79.trans (congrArg some (by kernel_rfl))⟩
  f26 := ⟨Tryd.f80.name, by decide, Tryd.func80.trans (congrArg some (by kernel_rfl))⟩
  f27 := ⟨Tryd.f81.name, by decide, Tryd.func81.trans (congrArg some (by kernel_rfl))⟩
  f28 := ⟨Tryd.f82.name, by decide, Tryd.func82.trans (congrArg some (by kernel_rfl))⟩
  f29 := ⟨Tryd.f83.name, by decide, Tryd.func83.trans (congrArg some (by kernel_rfl))⟩
  f31 := Tryd.func91.trans (congrArg some (by kernel_rfl))
  f32 := Tryd.func92.trans (congrArg some (by kernel_rfl))
  f36 := ⟨Tryd.f90.name, by decide, Tryd.func90.trans (congrArg some (by kernel_rfl))⟩
  f37 := ⟨Tryd.f93.name, by decide, Tryd.func93.trans (congrArg some (by kernel_rfl))⟩
  f38 := ⟨Tryd.f94.name, by decide, Tryd.func94.trans (congrArg some (by kernel_rfl))⟩
  f39 := ⟨Tryd.f95.name, by decide, Tryd.func95.trans (congrArg some (by kernel_rfl))⟩
  f41 := ⟨Tryd.f108.name, by decide, Tryd.func108.trans (congrArg some (by kernel_rfl))⟩
  t0 := Tryd.underlying0
  a0 := Tryd.isAgg0
  z0 := Tryd.sizeOf0
  v0 := Tryd.zeroValue0
  t3 := Tryd.underlying3
  a3 := Tryd.isAgg3
  z3 := Tryd.sizeOf3
  v3 := Tryd.zeroValue3
  t4 := Tryd.underlying4
  a4 := Tryd.isAgg4
  z4 := Tryd.sizeOf4
  v4 := Tryd.zeroValue4
  t5 := Tryd.underlying5
  a5 := Tryd.isAgg5
  z5 := Tryd.sizeOf5
  v5 := Tryd.zeroValue5
  t9 := Tryd.underlying9
  a9 := Tryd.isAgg9
  z9 := Tryd.sizeOf9
  v9 := Tryd.zeroValue9
  t26 := Tryd.underlying22
  a26 := Tryd.isAgg22
  z26 := Tryd.sizeOf22
  v26 := Tryd.zeroValue22
  t27 := Tryd.underlying22
  a27 := Tryd.isAgg22
  z27 := Tryd.sizeOf22
  v27 := Tryd.zeroValue22
  t29 := Tryd.underlying9
  a29 := Tryd.isAgg9
  z29 := Tryd.sizeOf9
  v29 := Tryd.zeroValue9
  t32 := Tryd.underlying131
  a32 := Tryd.isAgg131
  z32 := Tryd.sizeOf131
  v32 := Tryd.zeroValue131
  t35 := Tryd.underlying153
  a35 := Tryd.isAgg153
  z35 := Tryd.sizeOf153
  v35 := Tryd.zeroValue153
  t36 := Tryd.underlying154
  a36 := Tryd.isAgg154
  z36 := Tryd.sizeOf154
  v36 := Tryd.zeroValue154
  t41 := Tryd.underlying158
  a41 := Tryd.isAgg158
  z41 := Tryd.sizeOf158
  v41 := Tryd.zeroValue158
  t44 := Tryd.underlying161
  a44 := Tryd.isAgg161
  z44 := Tryd.sizeOf161
  v44 := Tryd.zeroValue161
  t46 := Tryd.underlying163
  a46 := Tryd.isAgg163
  z46 := Tryd.sizeOf163
  v46 := Tryd.zeroValue163
  t53 := Tryd.underlying167
  a53 := Tryd.isAgg167
  z53 := Tryd.sizeOf167
  v53 := Tryd.zeroValue167
  t57 := Tryd.underlying171
  a57 := Tryd.isAgg171
  z57 := Tryd.sizeOf171
  v57 := Tryd.zeroValue171
  t63 := Tryd.underlying181
  a63 := Tryd.isAgg181
  z63 := Tryd.sizeOf181
  v63 := Tryd.zeroValue181
  t64 := Tryd.underlying182
  a64 := Tryd.isAgg182
  z64 := Tryd.sizeOf182
  v64 := Tryd.zeroValue182 }
open Go.RowKit Go.Maps Go.Sort in
theorem Tryd.sorts_str (m : Nat) : AnyZ.SortsIn Tryd.prog Tryd.sorted_str_ren Fence.wide m :=
  ⟨fun blk off cap ss W hH hblk hsz => callsIn_wide.2 (AnyM.slices_Sort_string Tryd.sort_str blk off cap ss W hH hblk hsz),
   fun p cap W => callsIn_wide.2 (AnyM.slices_Sort_string_none Tryd.sort_str p cap W)⟩
open Go.RowKit Go.Maps Go.Sort in
theorem Tryd.maps_Keys_str (mb : Option Nat) (W : World) : Calls Tryd.prog 36 #[.map mb] W fun e w' => e = .returned (.func (.func 51) #[] #[.pointer (some ⟨W.heap.size, 0, none⟩)]) ∧ w' = W.alloc (.cells #[.map mb] 25) :=
  (callsIn_wide (n := 5)).1 (AnyZ.keys_in Tryd.keys_str Fence.wide 5 trivial rfl mb W)
open Go.RowKit Go.Maps Go.Sort in
theorem Tryd.slices_Sorted_str {H : Type} (b nn : Nat) (D0 : DataW H) (R : Value → Option (DataW H × List MemPlace)) (w : World) (hown : w.ownsMap Tryd.prog 9 R b nn D0) (hmax : Maps.size D0 ≤ maxLen) (hbytes : Maps.size D0 * 16 ≤ 140737488355328) :
    Calls Tryd.prog 35 #[.func (.func 51) #[] #[.pointer (some ⟨w.heap.size, 0, none⟩)]] (w.alloc (.cells #[.map (some b)] 25)) fun e w' => ∃ (v : Value) (ss : List (List UInt8)), e = .returned v ∧ ss.Perm (strKeys D0) ∧
      w'.ownsRow (w.alloc (.cells #[.map (some b)] 25)).heap.size 9 1 v ss.length ((ss.mergeSort (fun x y => decide (x ≤ y))).map encStr) ∧ (v = .slice none 0 0 ↔ ss = []) ∧ Below (w.alloc (.cells #[.map (some b)] 25)).heap.size (w.alloc (.cells #[.map (some b)] 25)) w' := by
  have hbl := hown.lt
  have hseq : SeqGives Fence.wide 2 Tryd.prog 51 #[.pointer (some ⟨w.heap.size, 0, none⟩)] encStr (fun ss => ss.Perm (strKeys D0)) (Maps.size D0) (w.alloc (.cells #[.map (some b)] 25)) :=
    AnyZ.keys_gives (ρ := Tryd.keys_str_ren) { Tryd.keys_str with } Fence.wide _ trivial rfl (by omega) w.heap.size b nn D0 _ (by simp) (by simp) (by
      obtain ⟨es, clock, hb, Ft, hs, hD⟩ := hown
      exact ⟨es, clock, (Below.heap_alloc _ _ b hbl).trans hb, Ft, hs, hD⟩)
  exact (callsIn_wide (n := 5)).1 (AnyZ.sorted_in Tryd.sorted_str Fence.wide 5 trivial trivial trivial trivial rfl (by omega) (Tryd.sorts_str _) (enters_of Tryd.func44 (by kernel_rfl) rfl) 51 #[.pointer (some ⟨w.heap.size, 0, none⟩)] trivial (enters_of Tryd.func51 (by kernel_rfl) rfl) _ _ hmax hbytes _ hseq)
def Tryd.keys_int_ren : Go.Shelf.Ren := ⟨fun | 7 => 49 | 10 => 65 | n => n, fun | 23 => 79 | 26 => 3 | 3 => 3 | 28 => 111 | 0 => 0 | 27 => 110 | 33 => 133 | 4 => 4 | n => n, fun | n => n⟩
theorem Tryd.keys_int : Go.Proofs.SlLaysZI.n7 Tryd.prog Tryd.keys_int_ren := {
  mixed := by kernel_rfl
  f7 := ⟨Tryd.f49.name, by decide, Tryd.func49.trans (congrArg some (by kernel_rfl))⟩
  f10 := ⟨Tryd.f65.name, by decide, Tryd.func65.trans (congrArg some (by kernel_rfl))⟩
  t0 := Tryd.underlying0
  a0 := Tryd.isAgg0
  z0 := Tryd.sizeOf0
  v0 := Tryd.zeroValue0
  t4 := Tryd.underlying4
  a4 := Tryd.isAgg4
  z4 := Tryd.sizeOf4
  v4 := Tryd.zeroValue4
  t23 := Tryd.underlying79
  a23 := Tryd.isAgg79
  z23 := Tryd.sizeOf79
  v23 := Tryd.zeroValue79
  t26 := Tryd.underlying3
  a26 := Tryd.isAgg3
  z26 := Tryd.sizeOf3
  v26 := Tryd.zeroValue3
  t27 := Tryd.underlying110
  a27 := Tryd.isAgg110
  z27 := Tryd.sizeOf110
  v27 := Tryd.zeroValue110
  t28 := Tryd.underlying111
  a28 := Tryd.isAgg111
  z28 := Tryd.sizeOf111
  v28 := Tryd.zeroValue111
  t33 := Tryd.underlying133
  a33 := Tryd.isAgg133
  z33 := Tryd.sizeOf133
  v33 := Tryd.zeroValue133 }
def Tryd.sorted_int_ren : Go.Shelf.Ren := ⟨fun | 6 => 48 | 8 => 63 | 9 => 64 | 11 => 86 | 13 => 61 | 12 => 87 | 23 => 84 | 24 => 85 | 14 => 96 | 15 => 97 | 16 => 98 | 17 => 99 | 18 => 100 | 19 => 101 | 20 => 102 | 21 => 103 | 22 => 104 | 25 => 109 | 26 => 91 | 27 => 92 | 28 => 110 | 29 => 111 | 30 => 112 | 31 => 117 | n => n, fun | 26 => 3 | 28 => 111 | 24 => 50 | 0 => 0 | 3 => 3 | 37 => 131 | 48 => 161 | 50 => 163 | 4 => 4 | 40 => 154 | 39 => 153 | 45 => 158 | 5 => 5 | 9 => 9 | 51 => 167 | 55 => 171 | 57 => 181 | 58 => 182 | 33 => 133 | n => n, fun | n => n⟩
theorem Tryd.sorted_int : Go.Proofs.SlLaysZI.n6 Tryd.prog Tryd.sorted_int_ren := {
  mixed := by kernel_rfl
  f6 := ⟨Tryd.f48.name, by decide, Tryd.func48.trans (congrArg some (by kernel_rfl))⟩
  f8 := ⟨Tryd.f63.name, by decide, Tryd.func63.trans (congrArg some (by kernel_rfl))⟩
  f11 := ⟨Tryd.f86.name, by decide, Tryd.func86.trans (congrArg some (by kernel_rfl))⟩
  t0 := Tryd.underlying0
  a0 := Tryd.isAgg0
  z0 := Tryd.sizeOf0
  v0 := Tryd.zeroValue0
  t24 := Tryd.underlying50
  a24 := Tryd.isAgg50
  z24 := Tryd.sizeOf50
  v24 := Tryd.zeroValue50
  t26 := Tryd.underlying3
  a26 := Tryd.isAgg3
  z26 := Tryd.sizeOf3
  v26 := Tryd.zeroValue3
  t28 := Tryd.underlying111
  a28 := Tryd.isAgg111
  z28 := Tryd.sizeOf111
  v28 := Tryd.zeroValue111
  i26 := by kernel_rfl }
def Tryd.sort_int_ren : Go.Shelf.Ren := ⟨fun | 5 => 64 | 8 => 61 | 7 => 87 | 19 => 84 | 20 => 85 | 10 => 96 | 11 => 97 | 12 => 98 | 13 => 99 | 14 => 100 | 15 => 101 | 16 => 102 | 17 => 103 | 18 => 104 | 30 => 109 | 31 => 91 | 32 => 92 | 33 => 110 | 34 => 111 | 35 => 112 | 40 => 117 | n => n, fun | 23 => 50 | 25 => 3 | 3 => 3 | 32 => 131 | 22 => 50 | 0 => 0 | 44 => 161 | 46 => 163 | 4 => 4 | 36 => 154 | 35 => 153 | 41 => 158 | 5 => 5 | 9 => 9 | 53 => 167 | 57 => 171 | 63 => 181 | 64 => 182 | n => n, fun | n => n⟩
theorem Tryd.sort_int : Go.Proofs.SlLaysM.n5 Tryd.prog Tryd.sort_int_ren := {
  mixed := by kernel_rfl
  f5 := ⟨Tryd.f64.name, by decide, Tryd.func64.trans (congrArg some (by kernel_rfl))⟩
  f7 := ⟨Tryd.f87.name, by decide, Tryd.func87.trans (congrArg some (by kernel_rfl))⟩
  f8 := Tryd.func61.trans (congrArg some (by kernel_rfl))
  f10 := ⟨Tryd.f96.name, by decide, Tryd.func96.trans (congrArg some (by kernel_rfl))⟩
  f11 := ⟨Tryd.f97.name, by decide, Tryd.func97.trans (congrArg some (by kernel_rfl))⟩
  f12 := ⟨Tryd.f98.name, by decide, Tryd.func98.trans (congrArg some (by kernel_rfl))⟩
  f13 := ⟨Tryd.f99.name, by decide, Tryd.func99.trans (congrArg some (by kernel_rfl))⟩
  f14 := ⟨Tryd.f100.name, by decide, Tryd.func100.trans (congrArg some (by kernel_rfl))⟩
  f15 := ⟨Tryd.f101.name, by decide, Tryd.func101.trans (congrArg some (by kernel_rfl))⟩
  f16 := ⟨Tryd.f102.name, by decide, Tryd.func102.trans (congrArg some (by kernel_rfl))⟩
  f17 := ⟨Tryd.f103.name, by decide, Tryd.func103.trans (congrArg some (by kernel_rfl))⟩
  f18 := ⟨Tryd.f104.name, by decide, Tryd.func104.trans (congrArg some (by kernel_rfl))⟩
  f19 := Tryd.func84.trans (congrArg some (by kernel_rfl))
  f20 := Tryd.func85.trans (congrArg some (by kernel_rfl))
  f30 := ⟨Tryd.f109.name, by decide, Tryd.func109.trans (congrArg some (by kernel_rfl))⟩
  f31 := Tryd.func91.trans (congrArg some (by kernel_rfl))
  f32 := Tryd.func92.trans (congrArg some (by kernel_rfl))
  f33 := ⟨Tryd.f110.name, by decide, Tryd.func110.trans (congrArg some (by kernel_rfl))⟩
  f34 := ⟨Tryd.f111.name, by decide, Tryd.func111.trans (congrArg some (by kernel_rfl))⟩
  f35 := ⟨Tryd.f112.name, by decide, Tryd.func112.trans (congrArg some (by kernel_rfl))⟩
  f40 := ⟨Tryd.f117.name, by decide, Tryd.func117.trans (congrArg some (by kernel_rfl))⟩
  t0 := Tryd.underlying0
  a0 := Tryd.isAgg0
  z0 := Tryd.sizeOf0
  v0 := Tryd.zeroValue0
  t3 := Tryd.underlying3
  a3 := Tryd.isAgg3
  z3 := Tryd.sizeOf3
  v3 := Tryd.zeroValue3
  t4 := Tryd.underlying4
  a4 := Tryd.isAgg4
  z4 := Tryd.sizeOf4
  v4 := Tryd.zeroValue4
  t5 := Tryd.underlying5
  a5 := Tryd.isAgg5
  z5 := Tryd.sizeOf5
  v5 := Tryd.zeroValue5
  t9 := Tryd.underlying9
  a9 := Tryd.isAgg9
  z9 := Tryd.sizeOf9
  v9 := Tryd.zeroValue9
  t22 := Tryd.underlying50
  a22 := Tryd.isAgg50
  z22 := Tryd.sizeOf50
  v22 := Tryd.zeroValue50
  t23 := Tryd.underlying50
  a23 := Tryd.isAgg50
  z23 := Tryd.sizeOf50
  v23 := Tryd.zeroValue50
  t25 := Tryd.underlying3
  a25 := Tryd.isAgg3
  z25 := Tryd.sizeOf3
  v25 := Tryd.zeroValue3
  t32 := Tryd.underlying131
  a32 := Tryd.isAgg131
  z32 := Tryd.sizeOf131
  v32 := Tryd.zeroValue131
  t35 := Tryd.underlying153
  a35 := Tryd.isAgg153
  z35 := Tryd.sizeOf153
  v35 := Tryd.zeroValue153
  t36 := Tryd.underlying154
  a36 := Tryd.isAgg154
  z36 := Tryd.sizeOf154
  v36 := Tryd.zeroValue154
  t41 := Tryd.underlying158
  a41 := Tryd.isAgg158
  z41 := Tryd.sizeOf158
  v41 := Tryd.zeroValue158
  t44 := Tryd.underlying161
  a44 := Tryd.isAgg161
  z44 := Tryd.sizeOf161
  v44 := Tryd.zeroValue161
  t46 := Tryd.underlying163
  a46 := Tryd.isAgg163
  z46 := Tryd.sizeOf163
  v46 := Tryd.zeroValue163
  t53 := Tryd.underlying167
  a53 := Tryd.isAgg167
  z53 := Tryd.sizeOf167
  v53 := Tryd.zeroValue167
  t57 := Tryd.underlying171
  a57 := Tryd.isAgg171
  z57 := Tryd.sizeOf171
  v57 := Tryd.zeroValue171
  t63 := Tryd.underlying181
  a63 := Tryd.isAgg181
  z63 := Tryd.sizeOf181
  v63 := Tryd.zeroValue181
  t64 := Tryd.underlying182
  a64 := Tryd.isAgg182
  z64 := Tryd.sizeOf182
  v64 := Tryd.zeroValue182 }
open Go.RowKit Go.Maps Go.Sort in
theorem Tryd.sorts_int (m : Nat) : AnyZI.SortsIn Tryd.prog Tryd.sorted_int_ren Fence.wide m :=
  ⟨fun blk off cap ss W hH hblk hsz => callsIn_wide.2 (AnyM.slices_Sort_int Tryd.sort_int blk off cap ss W hH hblk hsz),
   fun p cap W => callsIn_wide.2 (AnyM.slices_Sort_int_none Tryd.sort_int p cap W)⟩
open Go.RowKit Go.Maps Go.Sort in
theorem Tryd.maps_Keys_int (mb : Option Nat) (W : World) : Calls Tryd.prog 49 #[.map mb] W fun e w' => e = .returned (.func (.func 65) #[] #[.pointer (some ⟨W.heap.size, 0, none⟩)]) ∧ w' = W.alloc (.cells #[.map mb] 79) :=
  (callsIn_wide (n := 5)).1 (AnyZI.keys_in Tryd.keys_int Fence.wide 5 trivial rfl mb W)
open Go.RowKit Go.Maps Go.Sort in
theorem Tryd.slices_Sorted_int {H : Type} (b nn : Nat) (D0 : DataW H) (R : Value → Option (DataW H × List MemPlace)) (w : World) (hown : w.ownsMap Tryd.prog 3 R b nn D0) (hmax : Maps.size D0 ≤ maxLen) (hbytes : Maps.size D0 * 8 ≤ 140737488355328) :
    Calls Tryd.prog 48 #[.func (.func 65) #[] #[.pointer (some ⟨w.heap.size, 0, none⟩)]] (w.alloc (.cells #[.map (some b)] 79)) fun e w' => ∃ (v : Value) (ss : List Int), e = .returned v ∧ ss.Perm (intKeys D0) ∧
      w'.ownsRow (w.alloc (.cells #[.map (some b)] 79)).heap.size 3 1 v ss.length ((ss.mergeSort (fun x y => decide (x ≤ y))).map encZ) ∧ (v = .slice none 0 0 ↔ ss = []) ∧ Below (w.alloc (.cells #[.map (some b)] 79)).heap.size (w.alloc (.cells #[.map (some b)] 79)) w' := by
  have hbl := hown.lt
  have hseq : SeqGives Fence.wide 2 Tryd.prog 65 #[.pointer (some ⟨w.heap.size, 0, none⟩)] encZ (fun ss => ss.Perm (intKeys D0)) (Maps.size D0) (w.alloc (.cells #[.map (some b)] 79)) :=
    AnyZI.keys_gives (ρ := Tryd.keys_int_ren) { Tryd.keys_int with } Fence.wide _ trivial rfl (by omega) w.heap.size b nn D0 _ (by simp) (by simp) (by
      obtain ⟨es, clock, hb, Ft, hs, hD⟩ := hown
      exact ⟨es, clock, (Below.heap_alloc _ _ b hbl).trans hb, Ft, hs, hD⟩)
  exact (callsIn_wide (n := 5)).1 (AnyZI.sorted_in Tryd.sorted_int Fence.wide 5 trivial trivial trivial trivial rfl (by omega) (Tryd.sorts_int _) (enters_of Tryd.func64 (by kernel_rfl) rfl) 65 #[.pointer (some ⟨w.heap.size, 0, none⟩)] trivial (enters_of Tryd.func65 (by kernel_rfl) rfl) _ _ hmax hbytes _ hseq)
def Tryd.clone_map_ren : Go.Shelf.Ren := ⟨fun | 5 => 52 | 7 => 67 | n => n, fun | 23 => 25 | 25 => 9 | 3 => 9 | 4 => 4 | 20 => 20 | n => n, fun | n => n⟩
theorem Tryd.clone_map : Go.Proofs.SlLaysW.n5 Tryd.prog Tryd.clone_map_ren := {
  mixed := by kernel_rfl
  f5 := ⟨Tryd.f52.name, by decide, Tryd.func52.trans (congrArg some (by kernel_rfl))⟩
  f7 := Tryd.func67.trans (congrArg some (by kernel_rfl))
  t4 := Tryd.underlying4
  a4 := Tryd.isAgg4
  z4 := Tryd.sizeOf4
  v4 := Tryd.zeroValue4
  t20 := Tryd.underlying20
  a20 := Tryd.isAgg20
  z20 := Tryd.sizeOf20
  v20 := Tryd.zeroValue20
  t23 := Tryd.underlying25
  a23 := Tryd.isAgg25
  z23 := Tryd.sizeOf25
  v23 := Tryd.zeroValue25 }
open Go.RowKit Go.Maps in
theorem Tryd.maps_Clone_owns {H : Type} (k : TypeId) (R : Value → Option (DataW H × List MemPlace)) (b n : Nat) (D : DataW H) (w : World) (hown : w.ownsMap Tryd.prog k R b n D) :
    Calls Tryd.prog 52 #[.map (some b)] w fun e w' => e = .returned (.map (some w.heap.size)) ∧ w'.ownsMap Tryd.prog k R w.heap.size n D ∧ w'.ownsMap Tryd.prog k R b n D ∧ Below w.heap.size w w' := AnyW.maps_Clone_owns Tryd.clone_map k R b n D w hown
end Go.Proofs
