/-
  DERIVED: THE SHELF's CONTRACTS AT THIS DUMP, IN PLAIN WORDS (tools/lay-plain.mjs out of 'YtdbacepjaibaoaaDoorIter.lean', which tools/lay-shelf.mjs wrote): THE SAME DECLARATIONS UNDER THE SAME NAMES: 'import', 'namespace', 'open', 'def', 'theorem' AND NOTHING ELSE: no command of the shelf's: FOR A HAND-IN. Each laying: the table of numbers ('.._ren') and one theorem, a field a fact of the dump's own or the kernel's comparison; each contract: ONE APPLICATION.
-/
import Derived.Ground.GgzProg
import Derived.Ground.SlgmProg
import Derived.Shelf.SlIter.Nil
import Derived.Shelf.SlIterI.Nil
import Derived.Shelf.SlMaps.Clone
import Derived.Shelf.SortM.Plain
import Derived.Shelf.SortM.SortNone
import Derived.Test.YtdbacepjaibaoaaDoorProg
namespace Go.Proofs
open Go.Shelf
def Tryd.keys_str_ren : Go.Shelf.Ren := ⟨fun | 7 => 25 | 10 => 43 | n => n, fun | 23 => 25 | 26 => 9 | 3 => 9 | 28 => 70 | 0 => 0 | 27 => 69 | 33 => 102 | 4 => 4 | n => n, fun | n => n⟩
theorem Tryd.keys_str : Go.Proofs.SlLaysZ.n7 Tryd.prog Tryd.keys_str_ren := {
  mixed := by kernel_rfl
  f7 := ⟨Tryd.f25.name, by decide, Tryd.func25.trans (congrArg some (by kernel_rfl))⟩
  f10 := ⟨Tryd.f43.name, by decide, Tryd.func43.trans (congrArg some (by kernel_rfl))⟩
  t0 := Tryd.underlying0
  a0 := Tryd.isAgg0
  z0 := Tryd.sizeOf0
  v0 := Tryd.zeroValue0
  t4 := Tryd.underlying4
  a4 := Tryd.isAgg4
  z4 := Tryd.sizeOf4
  v4 := Tryd.zeroValue4
  t23 := Tryd.underlying25
  a23 := Tryd.isAgg25
  z23 := Tryd.sizeOf25
  v23 := Tryd.zeroValue25
  t26 := Tryd.underlying9
  a26 := Tryd.isAgg9
  z26 := Tryd.sizeOf9
  v26 := Tryd.zeroValue9
  t27 := Tryd.underlying69
  a27 := Tryd.isAgg69
  z27 := Tryd.sizeOf69
  v27 := Tryd.zeroValue69
  t28 := Tryd.underlying70
  a28 := Tryd.isAgg70
  z28 := Tryd.sizeOf70
  v28 := Tryd.zeroValue70
  t33 := Tryd.underlying102
  a33 := Tryd.isAgg102
  z33 := Tryd.sizeOf102
  v33 := Tryd.zeroValue102 }
def Tryd.sorted_str_ren : Go.Shelf.Ren := ⟨fun | 6 => 24 | 8 => 41 | 9 => 42 | 11 => 61 | 13 => 63 | 12 => 62 | 23 => 84 | 24 => 85 | 14 => 75 | 15 => 76 | 16 => 77 | 17 => 78 | 18 => 79 | 19 => 80 | 20 => 81 | 21 => 82 | 22 => 83 | 25 => 98 | 26 => 99 | 27 => 100 | 28 => 101 | 29 => 102 | 30 => 103 | 31 => 111 | n => n, fun | 26 => 9 | 28 => 70 | 24 => 22 | 0 => 0 | 3 => 3 | 37 => 132 | 48 => 164 | 50 => 166 | 4 => 4 | 40 => 157 | 39 => 156 | 45 => 161 | 5 => 5 | 9 => 9 | 51 => 174 | 55 => 178 | 57 => 184 | 58 => 185 | 33 => 102 | n => n, fun | n => n⟩
theorem Tryd.sorted_str : Go.Proofs.SlLaysZ.n6 Tryd.prog Tryd.sorted_str_ren := {
  mixed := by kernel_rfl
  f6 := ⟨Tryd.f24.name, by decide, Tryd.func24.trans (congrArg some (by kernel_rfl))⟩
  f8 := ⟨Tryd.f41.name, by decide, Tryd.func41.trans (congrArg some (by kernel_rfl))⟩
  f11 := ⟨Tryd.f61.name, by decide, Tryd.func61.trans (congrArg some (by kernel_rfl))⟩
  t0 := Tryd.underlying0
  a0 := Tryd.isAgg0
  z0 := Tryd.sizeOf0
  v0 := Tryd.zeroValue0
  t24 := Tryd.underlying22
  a24 := Tryd.isAgg22
  z24 := Tryd.sizeOf22
  v24 := Tryd.zeroValue22
  t26 := Tryd.underlying9
  a26 := Tryd.isAgg9
  z26 := Tryd.sizeOf9
  v26 := Tryd.zeroValue9
  t28 := Tryd.underlying70
  a28 := Tryd.isAgg70
  z28 := Tryd.sizeOf70
  v28 := Tryd.zeroValue70
  i26 := by kernel_rfl }
def Tryd.sort_str_ren : Go.Shelf.Ren := ⟨fun | 6 => 42 | 8 => 63 | 9 => 62 | 19 => 84 | 20 => 85 | 21 => 75 | 22 => 76 | 23 => 77 | 24 => 78 | 25 => 79 | 26 => 80 | 27 => 81 | 28 => 82 | 29 => 83 | 36 => 98 | 31 => 99 | 32 => 100 | 37 => 101 | 38 => 102 | 39 => 103 | 41 => 111 | n => n, fun | 27 => 22 | 29 => 9 | 3 => 3 | 32 => 132 | 26 => 22 | 0 => 0 | 44 => 164 | 46 => 166 | 4 => 4 | 36 => 157 | 35 => 156 | 41 => 161 | 5 => 5 | 9 => 9 | 53 => 174 | 57 => 178 | 63 => 184 | 64 => 185 | n => n, fun | n => n⟩
theorem Tryd.sort_str : Go.Proofs.SlLaysM.n6 Tryd.prog Tryd.sort_str_ren := {
  mixed := by kernel_rfl
  f6 := ⟨Tryd.f42.name, by decide, Tryd.func42.trans (congrArg some (by kernel_rfl))⟩
  f8 := Tryd.func63.trans (congrArg some (by kernel_rfl))
  f9 := ⟨Tryd.f62.name, by decide, Tryd.func62.trans (congrArg some (by kernel_rfl))⟩
  f19 := Tryd.func84.trans (congrArg some (by kernel_rfl))
  f20 := Tryd.func85.trans (congrArg some (by kernel_rfl))
  f21 := ⟨Tryd.f75.name, by decide, Tryd.func75.trans (congrArg some (by kernel_rfl))⟩
  f22 := ⟨Tryd.f76.name, by decide, Tryd.func76.trans (congrArg some (by kernel_rfl))⟩
  f23 := ⟨Tryd.f77.name, by decide, Tryd.func77.trans (congrArg some (by kernel_rfl))⟩
  f24 := ⟨Tryd.f78.name, by decide, Tryd.func78.trans (congrArg some (by kernel_rfl))⟩
  f25 := ⟨Tryd.f79.name, by decide, Tryd.func79.trans (congrArg some (by kernel_rfl))⟩
  f26 := ⟨Tryd.f80.name, by decide, Tryd.func80.trans (congrArg some (by kernel_rfl))⟩
  f27 := ⟨Tryd.f81.name, by decide, Tryd.func81.trans (congrArg some (by kernel_rfl))⟩
  f28 := ⟨Tryd.f82.name, by decide, Tryd.func82.trans (congrArg some (by kernel_rfl))⟩
  f29 := ⟨Tryd.f83.name, by decide, Tryd.func83.trans (congrArg some (by kernel_rfl))⟩
  f31 := Tryd.func99.trans (congrArg some (by kernel_rfl))
  f32 := Tryd.func100.trans (congrArg some (by kernel_rfl))
  f36 := ⟨Tryd.f98.name, by decide, Tryd.func98.trans (congrArg some (by kernel_rfl))⟩
  f37 := ⟨Tryd.f101.name, by decide, Tryd.func101.trans (congrArg some (by kernel_rfl))⟩
  f38 := ⟨Tryd.f102.name, by decide, Tryd.func102.trans (congrArg some (by kernel_rfl))⟩
  f39 := ⟨Tryd.f103.name, by decide, Tryd.func103.trans (congrArg some (by kernel_rfl))⟩
  f41 := ⟨Tryd.f111.name, by decide, Tryd.func111.trans (congrArg some (by kernel_rfl))⟩
  t0 := Tryd.underlying0
  a0 := Tryd.isAgg0
  z0 := Tryd.sizeOf0
  v0 := Tryd.zeroValue0
  t3 := Tryd.underlying3
  a3 := Tryd.isAgg3
  z3 := Tryd.sizeOf3
  v3 := Tryd.zeroValue3
  t4 := Tryd.underlying4
  a4 := Tryd.isAgg4
  z4 := Tryd.sizeOf4
  v4 := Tryd.zeroValue4
  t5 := Tryd.underlying5
  a5 := Tryd.isAgg5
  z5 := Tryd.sizeOf5
  v5 := Tryd.zeroValue5
  t9 := Tryd.underlying9
  a9 := Tryd.isAgg9
  z9 := Tryd.sizeOf9
  v9 := Tryd.zeroValue9
  t26 := Tryd.underlying22
  a26 := Tryd.isAgg22
  z26 := Tryd.sizeOf22
  v26 := Tryd.zeroValue22
  t27 := Tryd.underlying22
  a27 := Tryd.isAgg22
  z27 := Tryd.sizeOf22
  v27 := Tryd.zeroValue22
  t29 := Tryd.underlying9
  a29 := Tryd.isAgg9
  z29 := Tryd.sizeOf9
  v29 := Tryd.zeroValue9
  t32 := Tryd.underlying132
  a32 := Tryd.isAgg132
  z32 := Tryd.sizeOf132
  v32 := Tryd.zeroValue132
  t35 := Tryd.underlying156
  a35 := Tryd.isAgg156
  z35 := Tryd.sizeOf156
  v35 := Tryd.zeroValue156
  t36 := Tryd.underlying157
  a36 := Tryd.isAgg157
  z36 := Tryd.sizeOf157
  v36 := Tryd.zeroValue157
  t41 := Tryd.underlying161
  a41 := Tryd.isAgg161
  z41 := Tryd.sizeOf161
  v41 := Tryd.zeroValue161
  t44 := Tryd.underlying164
  a44 := Tryd.isAgg164
  z44 := Tryd.sizeOf164
  v44 := Tryd.zeroValue164
  t46 := Tryd.underlying166
  a46 := Tryd.isAgg166
  z46 := Tryd.sizeOf166
  v46 := Tryd.zeroValue166
  t53 := Tryd.underlying174
  a53 := Tryd.isAgg174
  z53 := Tryd.sizeOf174
  v53 := Tryd.zeroValue174
  t57 := Tryd.underlying178
  a57 := Tryd.isAgg178
  z57 := Tryd.sizeOf178
  v57 := Tryd.zeroValue178
  t63 := Tryd.underlying184
  a63 := Tryd.isAgg184
  z63 := Tryd.sizeOf184
  v63 := Tryd.zeroValue184
  t64 := Tryd.underlying185
  a64 := Tryd.isAgg185
  z64 := Tryd.sizeOf185
  v64 := Tryd.zeroValue185 }
open Go.RowKit Go.Maps Go.Sort in
theorem Tryd.sorts_str (m : Nat) : AnyZ.SortsIn Tryd.prog Tryd.sorted_str_ren Fence.wide m :=
  ⟨fun blk off cap ss W hH hblk hsz => callsIn_wide.2 (AnyM.slices_Sort_string Tryd.sort_str blk off cap ss W hH hblk hsz),
   fun p cap W => callsIn_wide.2 (AnyM.slices_Sort_string_none Tryd.sort_str p cap W)⟩
open Go.RowKit Go.Maps Go.Sort in
theorem Tryd.maps_Keys_str (mb : Option Nat) (W : World) : Calls Tryd.prog 25 #[.map mb] W fun e w' => e = .returned (.func (.func 43) #[] #[.pointer (some ⟨W.heap.size, 0, none⟩)]) ∧ w' = W.alloc (.cells #[.map mb] 25) :=
  (callsIn_wide (n := 5)).1 (AnyZ.keys_in Tryd.keys_str Fence.wide 5 trivial rfl mb W)
open Go.RowKit Go.Maps Go.Sort in
theorem Tryd.slices_Sorted_str {H : Type} (b nn : Nat) (D0 : DataW H) (R : Value → Option (DataW H × List MemPlace)) (w : World) (hown : w.ownsMap Tryd.prog 9 R b nn D0) (hmax : Maps.size D0 ≤ maxLen) (hbytes : Maps.size D0 * 16 ≤ 140737488355328) :
    Calls Tryd.prog 24 #[.func (.func 43) #[] #[.pointer (some ⟨w.heap.size, 0, none⟩)]] (w.alloc (.cells #[.map (some b)] 25)) fun e w' => ∃ (v : Value) (ss : List (List UInt8)), e = .returned v ∧ ss.Perm (strKeys D0) ∧
      w'.ownsRow (w.alloc (.cells #[.map (some b)] 25)).heap.size 9 1 v ss.length ((ss.mergeSort (fun x y => decide (x ≤ y))).map encStr) ∧ (v = .slice none 0 0 ↔ ss = []) ∧ Below (w.alloc (.cells #[.map (some b)] 25)).heap.size (w.alloc (.cells #[.map (some b)] 25)) w' := by
  have hbl := hown.lt
  have hseq : SeqGives Fence.wide 2 Tryd.prog 43 #[.pointer (some ⟨w.heap.size, 0, none⟩)] encStr (fun ss => ss.Perm (strKeys D0)) (Maps.size D0) (w.alloc (.cells #[.map (some b)] 25)) :=
    AnyZ.keys_gives (ρ := Tryd.keys_str_ren) { Tryd.keys_str with } Fence.wide _ trivial rfl (by omega) w.heap.size b nn D0 _ (by simp) (by simp) (by
      obtain ⟨es, clock, hb, Ft, hs, hD⟩ := hown
      exact ⟨es, clock, (Below.heap_alloc _ _ b hbl).trans hb, Ft, hs, hD⟩)
  exact (callsIn_wide (n := 5)).1 (AnyZ.sorted_in Tryd.sorted_str Fence.wide 5 trivial trivial trivial trivial rfl (by omega) (Tryd.sorts_str _) (enters_of Tryd.func42 (by kernel_rfl) rfl) 43 #[.pointer (some ⟨w.heap.size, 0, none⟩)] trivial (enters_of Tryd.func43 (by kernel_rfl) rfl) _ _ hmax hbytes _ hseq)
def Tryd.keys_int_ren : Go.Shelf.Ren := ⟨fun | 7 => 40 | 10 => 60 | n => n, fun | 23 => 82 | 26 => 3 | 3 => 3 | 28 => 98 | 0 => 0 | 27 => 97 | 33 => 128 | 4 => 4 | n => n, fun | n => n⟩
theorem Tryd.keys_int : Go.Proofs.SlLaysZI.n7 Tryd.prog Tryd.keys_int_ren := {
  mixed := by kernel_rfl
  f7 := ⟨Tryd.f40.name, by decide, Tryd.func40.trans (congrArg some (by kernel_rfl))⟩
  f10 := ⟨Tryd.f60.name, by decide, Tryd.func60.trans (congrArg some (by kernel_rfl))⟩
  t0 := Tryd.underlying0
  a0 := Tryd.isAgg0
  z0 := Tryd.sizeOf0
  v0 := Tryd.zeroValue0
  t4 := Tryd.underlying4
  a4 := Tryd.isAgg4
  z4 := Tryd.sizeOf4
  v4 := Tryd.zeroValue4
  t23 := Tryd.underlying82
  a23 := Tryd.isAgg82
  z23 := Tryd.sizeOf82
  v23 := Tryd.zeroValue82
  t26 := Tryd.underlying3
  a26 := Tryd.isAgg3
  z26 := Tryd.sizeOf3
  v26 := Tryd.zeroValue3
  t27 := Tryd.underlying97
  a27 := Tryd.isAgg97
  z27 := Tryd.sizeOf97
  v27 := Tryd.zeroValue97
  t28 := Tryd.underlying98
  a28 := Tryd.isAgg98
  z28 := Tryd.sizeOf98
  v28 := Tryd.zeroValue98
  t33 := Tryd.underlying128
  a33 := Tryd.isAgg128
  z33 := Tryd.sizeOf128
  v33 := Tryd.zeroValue128 }
def Tryd.sorted_int_ren : Go.Shelf.Ren := ⟨fun | 6 => 39 | 8 => 58 | 9 => 59 | 11 => 73 | 13 => 63 | 12 => 74 | 23 => 84 | 24 => 85 | 14 => 89 | 15 => 90 | 16 => 91 | 17 => 92 | 18 => 93 | 19 => 94 | 20 => 95 | 21 => 96 | 22 => 97 | 25 => 107 | 26 => 99 | 27 => 100 | 28 => 108 | 29 => 109 | 30 => 110 | 31 => 116 | n => n, fun | 26 => 3 | 28 => 98 | 24 => 65 | 0 => 0 | 3 => 3 | 37 => 132 | 48 => 164 | 50 => 166 | 4 => 4 | 40 => 157 | 39 => 156 | 45 => 161 | 5 => 5 | 9 => 9 | 51 => 174 | 55 => 178 | 57 => 184 | 58 => 185 | 33 => 128 | n => n, fun | n => n⟩
theorem Tryd.sorted_int : Go.Proofs.SlLaysZI.n6 Tryd.prog Tryd.sorted_int_ren := {
  mixed := by kernel_rfl
  f6 := ⟨Tryd.f39.name, by decide, Tryd.func39.trans (congrArg some (by kernel_rfl))⟩
  f8 := ⟨Tryd.f58.name, by decide, Tryd.func58.trans (congrArg some (by kernel_rfl))⟩
  f11 := ⟨Tryd.f73.name, by decide, Tryd.func73.trans (congrArg some (by kernel_rfl))⟩
  t0 := Tryd.underlying0
  a0 := Tryd.isAgg0
  z0 := Tryd.sizeOf0
  v0 := Tryd.zeroValue0
  t24 := Tryd.underlying65
  a24 := Tryd.isAgg65
  z24 := Tryd.sizeOf65
  v24 := Tryd.zeroValue65
  t26 := Tryd.underlying3
  a26 := Tryd.isAgg3
  z26 := Tryd.sizeOf3
  v26 := Tryd.zeroValue3
  t28 := Tryd.underlying98
  a28 := Tryd.isAgg98
  z28 := Tryd.sizeOf98
  v28 := Tryd.zeroValue98
  i26 := by kernel_rfl }
def Tryd.sort_int_ren : Go.Shelf.Ren := ⟨fun | 5 => 59 | 8 => 63 | 7 => 74 | 19 => 84 | 20 => 85 | 10 => 89 | 11 => 90 | 12 => 91 | 13 => 92 | 14 => 93 | 15 => 94 | 16 => 95 | 17 => 96 | 18 => 97 | 30 => 107 | 31 => 99 | 32 => 100 | 33 => 108 | 34 => 109 | 35 => 110 | 40 => 116 | n => n, fun | 23 => 65 | 25 => 3 | 3 => 3 | 32 => 132 | 22 => 65 | 0 => 0 | 44 => 164 | 46 => 166 | 4 => 4 | 36 => 157 | 35 => 156 | 41 => 161 | 5 => 5 | 9 => 9 | 53 => 174 | 57 => 178 | 63 => 184 | 64 => 185 | n => n, fun | n => n⟩
theorem Tryd.sort_int : Go.Proofs.SlLaysM.n5 Tryd.prog Tryd.sort_int_ren := {
  mixed := by kernel_rfl
  f5 := ⟨Tryd.f59.name, by decide, Tryd.func59.trans (congrArg some (by kernel_rfl))⟩
  f7 := ⟨Tryd.f74.name, by decide, Tryd.func74.trans (congrArg some (by kernel_rfl))⟩
  f8 := Tryd.func63.trans (congrArg some (by kernel_rfl))
  f10 := ⟨Tryd.f89.name, by decide, Tryd.func89.trans (congrArg some (by kernel_rfl))⟩
  f11 := ⟨Tryd.f90.name, by decide, Tryd.func90.trans (congrArg some (by kernel_rfl))⟩
  f12 := ⟨Tryd.f91.name, by decide, Tryd.func91.trans (congrArg some (by kernel_rfl))⟩
  f13 := ⟨Tryd.f92.name, by decide, Tryd.func92.trans (congrArg some (by kernel_rfl))⟩
  f14 := ⟨Tryd.f93.name, by decide, Tryd.func93.trans (congrArg some (by kernel_rfl))⟩
  f15 := ⟨Tryd.f94.name, by decide, Tryd.func94.trans (congrArg some (by kernel_rfl))⟩
  f16 := ⟨Tryd.f95.name, by decide, Tryd.func95.trans (congrArg some (by kernel_rfl))⟩
  f17 := ⟨Tryd.f96.name, by decide, Tryd.func96.trans (congrArg some (by kernel_rfl))⟩
  f18 := ⟨Tryd.f97.name, by decide, Tryd.func97.trans (congrArg some (by kernel_rfl))⟩
  f19 := Tryd.func84.trans (congrArg some (by kernel_rfl))
  f20 := Tryd.func85.trans (congrArg some (by kernel_rfl))
  f30 := ⟨Tryd.f107.name, by decide, Tryd.func107.trans (congrArg some (by kernel_rfl))⟩
  f31 := Tryd.func99.trans (congrArg some (by kernel_rfl))
  f32 := Tryd.func100.trans (congrArg some (by kernel_rfl))
  f33 := ⟨Tryd.f108.name, by decide, Tryd.func108.trans (congrArg some (by kernel_rfl))⟩
  f34 := ⟨Tryd.f109.name, by decide, Tryd.func109.trans (congrArg some (by kernel_rfl))⟩
  f35 := ⟨Tryd.f110.name, by decide, Tryd.func110.trans (congrArg some (by kernel_rfl))⟩
  f40 := ⟨Tryd.f116.name, by decide, Tryd.func116.trans (congrArg some (by kernel_rfl))⟩
  t0 := Tryd.underlying0
  a0 := Tryd.isAgg0
  z0 := Tryd.sizeOf0
  v0 := Tryd.zeroValue0
  t3 := Tryd.underlying3
  a3 := Tryd.isAgg3
  z3 := Tryd.sizeOf3
  v3 := Tryd.zeroValue3
  t4 := Tryd.underlying4
  a4 := Tryd.isAgg4
  z4 := Tryd.sizeOf4
  v4 := Tryd.zeroValue4
  t5 := Tryd.underlying5
  a5 := Tryd.isAgg5
  z5 := Tryd.sizeOf5
  v5 := Tryd.zeroValue5
  t9 := Tryd.underlying9
  a9 := Tryd.isAgg9
  z9 := Tryd.sizeOf9
  v9 := Tryd.zeroValue9
  t22 := Tryd.underlying65
  a22 := Tryd.isAgg65
  z22 := Tryd.sizeOf65
  v22 := Tryd.zeroValue65
  t23 := Tryd.underlying65
  a23 := Tryd.isAgg65
  z23 := Tryd.sizeOf65
  v23 := Tryd.zeroValue65
  t25 := Tryd.underlying3
  a25 := Tryd.isAgg3
  z25 := Tryd.sizeOf3
  v25 := Tryd.zeroValue3
  t32 := Tryd.underlying132
  a32 := Tryd.isAgg132
  z32 := Tryd.sizeOf132
  v32 := Tryd.zeroValue132
  t35 := Tryd.underlying156
  a35 := Tryd.isAgg156
  z35 := Tryd.sizeOf156
  v35 := Tryd.zeroValue156
  t36 := Tryd.underlying157
  a36 := Tryd.isAgg157
  z36 := Tryd.sizeOf157
  v36 := Tryd.zeroValue157
  t41 := Tryd.underlying161
  a41 := Tryd.isAgg161
  z41 := Tryd.sizeOf161
  v41 := Tryd.zeroValue161
  t44 := Tryd.underlying164
  a44 := Tryd.isAgg164
  z44 := Tryd.sizeOf164
  v44 := Tryd.zeroValue164
  t46 := Tryd.underlying166
  a46 := Tryd.isAgg166
  z46 := Tryd.sizeOf166
  v46 := Tryd.zeroValue166
  t53 := Tryd.underlying174
  a53 := Tryd.isAgg174
  z53 := Tryd.sizeOf174
  v53 := Tryd.zeroValue174
  t57 := Tryd.underlying178
  a57 := Tryd.isAgg178
  z57 := Tryd.sizeOf178
  v57 := Tryd.zeroValue178
  t63 := Tryd.underlying184
  a63 := Tryd.isAgg184
  z63 := Tryd.sizeOf184
  v63 := Tryd.zeroValue184
  t64 := Tryd.underlying185
  a64 := Tryd.isAgg185
  z64 := Tryd.sizeOf185
  v64 := Tryd.zeroValue185 }
open Go.RowKit Go.Maps Go.Sort in
theorem Tryd.sorts_int (m : Nat) : AnyZI.SortsIn Tryd.prog Tryd.sorted_int_ren Fence.wide m :=
  ⟨fun blk off cap ss W hH hblk hsz => callsIn_wide.2 (AnyM.slices_Sort_int Tryd.sort_int blk off cap ss W hH hblk hsz),
   fun p cap W => callsIn_wide.2 (AnyM.slices_Sort_int_none Tryd.sort_int p cap W)⟩
open Go.RowKit Go.Maps Go.Sort in
theorem Tryd.maps_Keys_int (mb : Option Nat) (W : World) : Calls Tryd.prog 40 #[.map mb] W fun e w' => e = .returned (.func (.func 60) #[] #[.pointer (some ⟨W.heap.size, 0, none⟩)]) ∧ w' = W.alloc (.cells #[.map mb] 82) :=
  (callsIn_wide (n := 5)).1 (AnyZI.keys_in Tryd.keys_int Fence.wide 5 trivial rfl mb W)
open Go.RowKit Go.Maps Go.Sort in
theorem Tryd.slices_Sorted_int {H : Type} (b nn : Nat) (D0 : DataW H) (R : Value → Option (DataW H × List MemPlace)) (w : World) (hown : w.ownsMap Tryd.prog 3 R b nn D0) (hmax : Maps.size D0 ≤ maxLen) (hbytes : Maps.size D0 * 8 ≤ 140737488355328) :
    Calls Tryd.prog 39 #[.func (.func 60) #[] #[.pointer (some ⟨w.heap.size, 0, none⟩)]] (w.alloc (.cells #[.map (some b)] 82)) fun e w' => ∃ (v : Value) (ss : List Int), e = .returned v ∧ ss.Perm (intKeys D0) ∧
      w'.ownsRow (w.alloc (.cells #[.map (some b)] 82)).heap.size 3 1 v ss.length ((ss.mergeSort (fun x y => decide (x ≤ y))).map encZ) ∧ (v = .slice none 0 0 ↔ ss = []) ∧ Below (w.alloc (.cells #[.map (some b)] 82)).heap.size (w.alloc (.cells #[.map (some b)] 82)) w' := by
  have hbl := hown.lt
  have hseq : SeqGives Fence.wide 2 Tryd.prog 60 #[.pointer (some ⟨w.heap.size, 0, none⟩)] encZ (fun ss => ss.Perm (intKeys D0)) (Maps.size D0) (w.alloc (.cells #[.map (some b)] 82)) :=
    AnyZI.keys_gives (ρ := Tryd.keys_int_ren) { Tryd.keys_int with } Fence.wide _ trivial rfl (by omega) w.heap.size b nn D0 _ (by simp) (by simp) (by
      obtain ⟨es, clock, hb, Ft, hs, hD⟩ := hown
      exact ⟨es, clock, (Below.heap_alloc _ _ b hbl).trans hb, Ft, hs, hD⟩)
  exact (callsIn_wide (n := 5)).1 (AnyZI.sorted_in Tryd.sorted_int Fence.wide 5 trivial trivial trivial trivial rfl (by omega) (Tryd.sorts_int _) (enters_of Tryd.func59 (by kernel_rfl) rfl) 60 #[.pointer (some ⟨w.heap.size, 0, none⟩)] trivial (enters_of Tryd.func60 (by kernel_rfl) rfl) _ _ hmax hbytes _ hseq)
def Tryd.clone_map_ren : Go.Shelf.Ren := ⟨fun | 5 => 44 | 7 => 64 | n => n, fun | 23 => 25 | 25 => 9 | 3 => 9 | 4 => 4 | 20 => 20 | n => n, fun | n => n⟩
theorem Tryd.clone_map : Go.Proofs.SlLaysW.n5 Tryd.prog Tryd.clone_map_ren := {
  mixed := by kernel_rfl
  f5 := ⟨Tryd.f44.name, by decide, Tryd.func44.trans (congrArg some (by kernel_rfl))⟩
  f7 := Tryd.func64.trans (congrArg some (by kernel_rfl))
  t4 := Tryd.underlying4
  a4 := Tryd.isAgg4
  z4 := Tryd.sizeOf4
  v4 := Tryd.zeroValue4
  t20 := Tryd.underlying20
  a20 := Tryd.isAgg20
  z20 := Tryd.sizeOf20
  v20 := Tryd.zeroValue20
  t23 := Tryd.underlying25
  a23 := Tryd.isAgg25
  z23 := Tryd.sizeOf25
  v23 := Tryd.zeroValue25 }
open Go.RowKit Go.Maps in
theorem Tryd.maps_Clone_owns {H : Type} (k : TypeId) (R : Value → Option (DataW H × List MemPlace)) (b n : Nat) (D : DataW H) (w : World) (hown : w.ownsMap Tryd.prog k R b n D) :
    Calls Tryd.prog 44 #[.map (some b)] w fun e w' => e = .returned (.map (some w.heap.size)) ∧ w'.ownsMap Tryd.prog k R w.heap.size n D ∧ w'.ownsMap Tryd.prog k R b n D ∧ Below w.heap.size w w' := AnyW.maps_Clone_owns Tryd.clone_map k R b n D w hown
end Go.Proofs
