/-
  DERIVED: THE SHELF's CONTRACTS AT THIS DUMP, IN PLAIN WORDS (tools/lay-plain.mjs out of 'YtdbacepjaibaoaaGreatDoorIter.lean', which tools/lay-shelf.mjs wrote): THE SAME DECLARATIONS UNDER THE SAME NAMES: 'import', 'namespace', 'open', 'def', 'theorem' AND NOTHING ELSE: no command of the shelf's: FOR A HAND-IN. Each laying: the table of numbers ('.._ren') and one theorem, a field a fact of the dump's own or the kernel's comparison; each contract: ONE APPLICATION.
-/
import Derived.Ground.GgzProg
import Derived.Ground.SlgmProg
import Derived.Shelf.SlIterI.Nil
import Derived.Shelf.SortM.Plain
import Derived.Shelf.SortM.SortNone
import Derived.Test.YtdbacepjaibaoaaGreatDoorProg
namespace Go.Proofs
open Go.Shelf
def Tryz.keys_int_ren : Go.Shelf.Ren := ⟨fun | 7 => 39 | 10 => 57 | n => n, fun | 23 => 46 | 26 => 3 | 3 => 3 | 28 => 98 | 0 => 0 | 27 => 97 | 33 => 126 | 4 => 4 | n => n, fun | n => n⟩
theorem Tryz.keys_int : Go.Proofs.SlLaysZI.n7 Tryz.prog Tryz.keys_int_ren := {
  mixed := by kernel_rfl
  f7 := ⟨Tryz.f39.name, by decide, Tryz.func39.trans (congrArg some (by kernel_rfl))⟩
  f10 := ⟨Tryz.f57.name, by decide, Tryz.func57.trans (congrArg some (by kernel_rfl))⟩
  t0 := Tryz.underlying0
  a0 := Tryz.isAgg0
  z0 := Tryz.sizeOf0
  v0 := Tryz.zeroValue0
  t4 := Tryz.underlying4
  a4 := Tryz.isAgg4
  z4 := Tryz.sizeOf4
  v4 := Tryz.zeroValue4
  t23 := Tryz.underlying46
  a23 := Tryz.isAgg46
  z23 := Tryz.sizeOf46
  v23 := Tryz.zeroValue46
  t26 := Tryz.underlying3
  a26 := Tryz.isAgg3
  z26 := Tryz.sizeOf3
  v26 := Tryz.zeroValue3
  t27 := Tryz.underlying97
  a27 := Tryz.isAgg97
  z27 := Tryz.sizeOf97
  v27 := Tryz.zeroValue97
  t28 := Tryz.underlying98
  a28 := Tryz.isAgg98
  z28 := Tryz.sizeOf98
  v28 := Tryz.zeroValue98
  t33 := Tryz.underlying126
  a33 := Tryz.isAgg126
  z33 := Tryz.sizeOf126
  v33 := Tryz.zeroValue126 }
def Tryz.sorted_int_ren : Go.Shelf.Ren := ⟨fun | 6 => 38 | 8 => 55 | 9 => 56 | 11 => 69 | 13 => 71 | 12 => 70 | 23 => 94 | 24 => 95 | 14 => 85 | 15 => 86 | 16 => 87 | 17 => 88 | 18 => 89 | 19 => 90 | 20 => 91 | 21 => 92 | 22 => 93 | 25 => 112 | 26 => 113 | 27 => 114 | 28 => 115 | 29 => 116 | 30 => 117 | 31 => 127 | n => n, fun | 26 => 3 | 28 => 98 | 24 => 42 | 0 => 0 | 3 => 3 | 37 => 155 | 48 => 159 | 50 => 181 | 4 => 4 | 40 => 173 | 39 => 172 | 45 => 163 | 5 => 5 | 9 => 9 | 51 => 204 | 55 => 208 | 57 => 219 | 58 => 38 | 33 => 126 | n => n, fun | n => n⟩
theorem Tryz.sorted_int : Go.Proofs.SlLaysZI.n6 Tryz.prog Tryz.sorted_int_ren := {
  mixed := by kernel_rfl
  f6 := ⟨Tryz.f38.name, by decide, Tryz.func38.trans (congrArg some (by kernel_rfl))⟩
  f8 := ⟨Tryz.f55.name, by decide, Tryz.func55.trans (congrArg some (by kernel_rfl))⟩
  f11 := ⟨Tryz.f69.name, by decide, Tryz.func69.trans (congrArg some (by kernel_rfl))⟩
  t0 := Tryz.underlying0
  a0 := Tryz.isAgg0
  z0 := Tryz.sizeOf0
  v0 := Tryz.zeroValue0
  t24 := Tryz.underlying42
  a24 := Tryz.isAgg42
  z24 := Tryz.sizeOf42
  v24 := Tryz.zeroValue42
  t26 := Tryz.underlying3
  a26 := Tryz.isAgg3
  z26 := Tryz.sizeOf3
  v26 := Tryz.zeroValue3
  t28 := Tryz.underlying98
  a28 := Tryz.isAgg98
  z28 := Tryz.sizeOf98
  v28 := Tryz.zeroValue98
  i26 := by kernel_rfl }
def Tryz.sort_int_ren : Go.Shelf.Ren := ⟨fun | 5 => 56 | 8 => 71 | 7 => 70 | 19 => 94 | 20 => 95 | 10 => 85 | 11 => 86 | 12 => 87 | 13 => 88 | 14 => 89 | 15 => 90 | 16 => 91 | 17 => 92 | 18 => 93 | 30 => 112 | 31 => 113 | 32 => 114 | 33 => 115 | 34 => 116 | 35 => 117 | 40 => 127 | n => n, fun | 23 => 42 | 25 => 3 | 3 => 3 | 32 => 155 | 22 => 42 | 0 => 0 | 44 => 159 | 46 => 181 | 4 => 4 | 36 => 173 | 35 => 172 | 41 => 163 | 5 => 5 | 9 => 9 | 53 => 204 | 57 => 208 | 63 => 219 | 64 => 38 | n => n, fun | n => n⟩
theorem Tryz.sort_int : Go.Proofs.SlLaysM.n5 Tryz.prog Tryz.sort_int_ren := {
  mixed := by kernel_rfl
  f5 := ⟨Tryz.f56.name, by decide, Tryz.func56.trans (congrArg some (by kernel_rfl))⟩
  f7 := ⟨Tryz.f70.name, by decide, Tryz.func70.trans (congrArg some (by kernel_rfl))⟩
  f8 := Tryz.func71.trans (congrArg some (by kernel_rfl))
  f10 := ⟨Tryz.f85.name, by decide, Tryz.func85.trans (congrArg some (by kernel_rfl))⟩
  f11 := ⟨Tryz.f86.name, by decide, Tryz.func86.trans (congrArg some (by kernel_rfl))⟩
  f12 := ⟨Tryz.f87.name, by decide, Tryz.func87.trans (congrArg some (by kernel_rfl))⟩
  f13 := ⟨Tryz.f88.name, by decide, Tryz.func88.trans (congrArg some (by kernel_rfl))⟩
  f14 := ⟨Tryz.f89.name, by decide, Tryz.func89.trans (congrArg some (by kernel_rfl))⟩
  f15 := ⟨Tryz.f90.name, by decide, Tryz.func90.trans (congrArg some (by kernel_rfl))⟩
  f16 := ⟨Tryz.f91.name, by decide, Tryz.func91.trans (congrArg some (by kernel_rfl))⟩
  f17 := ⟨Tryz.f92.name, by decide, Tryz.func92.trans (congrArg some (by kernel_rfl))⟩
  f18 := ⟨Tryz.f93.name, by decide, Tryz.func93.trans (congrArg some (by kernel_rfl))⟩
  f19 := Tryz.func94.trans (congrArg some (by kernel_rfl))
  f20 := Tryz.func95.trans (congrArg some (by kernel_rfl))
  f30 := ⟨Tryz.f112.name, by decide, Tryz.func112.trans (congrArg some (by kernel_rfl))⟩
  f31 := Tryz.func113.trans (congrArg some (by kernel_rfl))
  f32 := Tryz.func114.trans (congrArg some (by kernel_rfl))
  f33 := ⟨Tryz.f115.name, by decide, Tryz.func115.trans (congrArg some (by kernel_rfl))⟩
  f34 := ⟨Tryz.f116.name, by decide, Tryz.func116.trans (congrArg some (by kernel_rfl))⟩
  f35 := ⟨Tryz.f117.name, by decide, Tryz.func117.trans (congrArg some (by kernel_rfl))⟩
  f40 := ⟨Tryz.f127.name, by decide, Tryz.func127.trans (congrArg some (by kernel_rfl))⟩
  t0 := Tryz.underlying0
  a0 := Tryz.isAgg0
  z0 := Tryz.sizeOf0
  v0 := Tryz.zeroValue0
  t3 := Tryz.underlying3
  a3 := Tryz.isAgg3
  z3 := Tryz.sizeOf3
  v3 := Tryz.zeroValue3
  t4 := Tryz.underlying4
  a4 := Tryz.isAgg4
  z4 := Tryz.sizeOf4
  v4 := Tryz.zeroValue4
  t5 := Tryz.underlying5
  a5 := Tryz.isAgg5
  z5 := Tryz.sizeOf5
  v5 := Tryz.zeroValue5
  t9 := Tryz.underlying9
  a9 := Tryz.isAgg9
  z9 := Tryz.sizeOf9
  v9 := Tryz.zeroValue9
  t22 := Tryz.underlying42
  a22 := Tryz.isAgg42
  z22 := Tryz.sizeOf42
  v22 := Tryz.zeroValue42
  t23 := Tryz.underlying42
  a23 := Tryz.isAgg42
  z23 := Tryz.sizeOf42
  v23 := Tryz.zeroValue42
  t25 := Tryz.underlying3
  a25 := Tryz.isAgg3
  z25 := Tryz.sizeOf3
  v25 := Tryz.zeroValue3
  t32 := Tryz.underlying155
  a32 := Tryz.isAgg155
  z32 := Tryz.sizeOf155
  v32 := Tryz.zeroValue155
  t35 := Tryz.underlying172
  a35 := Tryz.isAgg172
  z35 := Tryz.sizeOf172
  v35 := Tryz.zeroValue172
  t36 := Tryz.underlying173
  a36 := Tryz.isAgg173
  z36 := Tryz.sizeOf173
  v36 := Tryz.zeroValue173
  t41 := Tryz.underlying163
  a41 := Tryz.isAgg163
  z41 := Tryz.sizeOf163
  v41 := Tryz.zeroValue163
  t44 := Tryz.underlying159
  a44 := Tryz.isAgg159
  z44 := Tryz.sizeOf159
  v44 := Tryz.zeroValue159
  t46 := Tryz.underlying181
  a46 := Tryz.isAgg181
  z46 := Tryz.sizeOf181
  v46 := Tryz.zeroValue181
  t53 := Tryz.underlying204
  a53 := Tryz.isAgg204
  z53 := Tryz.sizeOf204
  v53 := Tryz.zeroValue204
  t57 := Tryz.underlying208
  a57 := Tryz.isAgg208
  z57 := Tryz.sizeOf208
  v57 := Tryz.zeroValue208
  t63 := Tryz.underlying219
  a63 := Tryz.isAgg219
  z63 := Tryz.sizeOf219
  v63 := Tryz.zeroValue219
  t64 := Tryz.underlying38
  a64 := Tryz.isAgg38
  z64 := Tryz.sizeOf38
  v64 := Tryz.zeroValue38 }
open Go.RowKit Go.Maps Go.Sort in
theorem Tryz.sorts_int (m : Nat) : AnyZI.SortsIn Tryz.prog Tryz.sorted_int_ren Fence.wide m :=
  ⟨fun blk off cap ss W hH hblk hsz => callsIn_wide.2 (AnyM.slices_Sort_int Tryz.sort_int blk off cap ss W hH hblk hsz),
   fun p cap W => callsIn_wide.2 (AnyM.slices_Sort_int_none Tryz.sort_int p cap W)⟩
open Go.RowKit Go.Maps Go.Sort in
theorem Tryz.maps_Keys_int (mb : Option Nat) (W : World) : Calls Tryz.prog 39 #[.map mb] W fun e w' => e = .returned (.func (.func 57) #[] #[.pointer (some ⟨W.heap.size, 0, none⟩)]) ∧ w' = W.alloc (.cells #[.map mb] 46) :=
  (callsIn_wide (n := 5)).1 (AnyZI.keys_in Tryz.keys_int Fence.wide 5 trivial rfl mb W)
open Go.RowKit Go.Maps Go.Sort in
theorem Tryz.slices_Sorted_int {H : Type} (b nn : Nat) (D0 : DataW H) (R : Value → Option (DataW H × List MemPlace)) (w : World) (hown : w.ownsMap Tryz.prog 3 R b nn D0) (hmax : Maps.size D0 ≤ maxLen) (hbytes : Maps.size D0 * 8 ≤ 140737488355328) :
    Calls Tryz.prog 38 #[.func (.func 57) #[] #[.pointer (some ⟨w.heap.size, 0, none⟩)]] (w.alloc (.cells #[.map (some b)] 46)) fun e w' => ∃ (v : Value) (ss : List Int), e = .returned v ∧ ss.Perm (intKeys D0) ∧
      w'.ownsRow (w.alloc (.cells #[.map (some b)] 46)).heap.size 3 1 v ss.length ((ss.mergeSort (fun x y => decide (x ≤ y))).map encZ) ∧ (v = .slice none 0 0 ↔ ss = []) ∧ Below (w.alloc (.cells #[.map (some b)] 46)).heap.size (w.alloc (.cells #[.map (some b)] 46)) w' := by
  have hbl := hown.lt
  have hseq : SeqGives Fence.wide 2 Tryz.prog 57 #[.pointer (some ⟨w.heap.size, 0, none⟩)] encZ (fun ss => ss.Perm (intKeys D0)) (Maps.size D0) (w.alloc (.cells #[.map (some b)] 46)) :=
    AnyZI.keys_gives (ρ := Tryz.keys_int_ren) { Tryz.keys_int with } Fence.wide _ trivial rfl (by omega) w.heap.size b nn D0 _ (by simp) (by simp) (by
      obtain ⟨es, clock, hb, Ft, hs, hD⟩ := hown
      exact ⟨es, clock, (Below.heap_alloc _ _ b hbl).trans hb, Ft, hs, hD⟩)
  exact (callsIn_wide (n := 5)).1 (AnyZI.sorted_in Tryz.sorted_int Fence.wide 5 trivial trivial trivial trivial rfl (by omega) (Tryz.sorts_int _) (enters_of Tryz.func56 (by kernel_rfl) rfl) 57 #[.pointer (some ⟨w.heap.size, 0, none⟩)] trivial (enters_of Tryz.func57 (by kernel_rfl) rfl) _ _ hmax hbytes _ hseq)
end Go.Proofs
