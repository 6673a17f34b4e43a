/-
  DERIVED: THE SHELF's CONTRACTS AT THIS DUMP, IN PLAIN WORDS (tools/lay-plain.mjs out of 'YtkplkienbgoofaaGreatDoorIter.lean', which tools/lay-shelf.mjs wrote): THE SAME DECLARATIONS UNDER THE SAME NAMES: 'import', 'namespace', 'open', 'def', 'theorem' AND NOTHING ELSE: no command of the shelf's: FOR A HAND-IN. Each laying: the table of numbers ('.._ren') and one theorem, a field a fact of the dump's own or the kernel's comparison; each contract: ONE APPLICATION.
-/
import Derived.Ground.GgzProg
import Derived.Ground.SlgmProg
import Derived.Shelf.SlIterI.Nil
import Derived.Shelf.SortM.Plain
import Derived.Shelf.SortM.SortNone
import Derived.Test.YtkplkienbgoofaaGreatDoorProg
namespace Go.Proofs
open Go.Shelf
def Tryz.keys_int_ren : Go.Shelf.Ren := ⟨fun | 7 => 60 | 10 => 92 | n => n, fun | 23 => 46 | 26 => 3 | 3 => 3 | 28 => 133 | 0 => 0 | 27 => 132 | 33 => 85 | 4 => 4 | n => n, fun | n => n⟩
theorem Tryz.keys_int : Go.Proofs.SlLaysZI.n7 Tryz.prog Tryz.keys_int_ren := {
  mixed := by kernel_rfl
  f7 := ⟨Tryz.f60.name, by decide, Tryz.func60.trans (congrArg some (by kernel_rfl))⟩
  f10 := ⟨Tryz.f92.name, by decide, Tryz.func92.trans (congrArg some (by kernel_rfl))⟩
  t0 := Tryz.underlying0
  a0 := Tryz.isAgg0
  z0 := Tryz.sizeOf0
  v0 := Tryz.zeroValue0
  t4 := Tryz.underlying4
  a4 := Tryz.isAgg4
  z4 := Tryz.sizeOf4
  v4 := Tryz.zeroValue4
  t23 := Tryz.underlying46
  a23 := Tryz.isAgg46
  z23 := Tryz.sizeOf46
  v23 := Tryz.zeroValue46
  t26 := Tryz.underlying3
  a26 := Tryz.isAgg3
  z26 := Tryz.sizeOf3
  v26 := Tryz.zeroValue3
  t27 := Tryz.underlying132
  a27 := Tryz.isAgg132
  z27 := Tryz.sizeOf132
  v27 := Tryz.zeroValue132
  t28 := Tryz.underlying133
  a28 := Tryz.isAgg133
  z28 := Tryz.sizeOf133
  v28 := Tryz.zeroValue133
  t33 := Tryz.underlying85
  a33 := Tryz.isAgg85
  z33 := Tryz.sizeOf85
  v33 := Tryz.zeroValue85 }
def Tryz.sorted_int_ren : Go.Shelf.Ren := ⟨fun | 6 => 59 | 8 => 90 | 9 => 91 | 11 => 115 | 13 => 117 | 12 => 116 | 23 => 142 | 24 => 143 | 14 => 133 | 15 => 134 | 16 => 135 | 17 => 136 | 18 => 137 | 19 => 138 | 20 => 139 | 21 => 140 | 22 => 141 | 25 => 159 | 26 => 160 | 27 => 161 | 28 => 162 | 29 => 163 | 30 => 164 | 31 => 174 | n => n, fun | 26 => 3 | 28 => 133 | 24 => 42 | 0 => 0 | 3 => 3 | 37 => 245 | 48 => 157 | 50 => 162 | 4 => 4 | 40 => 264 | 39 => 263 | 45 => 252 | 5 => 5 | 9 => 9 | 51 => 290 | 55 => 294 | 57 => 304 | 58 => 38 | 33 => 85 | n => n, fun | n => n⟩
theorem Tryz.sorted_int : Go.Proofs.SlLaysZI.n6 Tryz.prog Tryz.sorted_int_ren := {
  mixed := by kernel_rfl
  f6 := ⟨Tryz.f59.name, by decide, Tryz.func59.trans (congrArg some (by kernel_rfl))⟩
  f8 := ⟨Tryz.f90.name, by decide, Tryz.func90.trans (congrArg some (by kernel_rfl))⟩
  f11 := ⟨Tryz.f115.name, by decide, Tryz.func115.trans (congrArg some (by kernel_rfl))⟩
  t0 := Tryz.underlying0
  a0 := Tryz.isAgg0
  z0 := Tryz.sizeOf0
  v0 := Tryz.zeroValue0
  t24 := Tryz.underlying42
  a24 := Tryz.isAgg42
  z24 := Tryz.sizeOf42
  v24 := Tryz.zeroValue42
  t26 := Tryz.underlying3
  a26 := Tryz.isAgg3
  z26 := Tryz.sizeOf3
  v26 := Tryz.zeroValue3
  t28 := Tryz.underlying133
  a28 := Tryz.isAgg133
  z28 := Tryz.sizeOf133
  v28 := Tryz.zeroValue133
  i26 := by kernel_rfl }
def Tryz.sort_int_ren : Go.Shelf.Ren := ⟨fun | 5 => 91 | 8 => 117 | 7 => 116 | 19 => 142 | 20 => 143 | 10 => 133 | 11 => 134 | 12 => 135 | 13 => 136 | 14 => 137 | 15 => 138 | 16 => 139 | 17 => 140 | 18 => 141 | 30 => 159 | 31 => 160 | 32 => 161 | 33 => 162 | 34 => 163 | 35 => 164 | 40 => 174 | n => n, fun | 23 => 42 | 25 => 3 | 3 => 3 | 32 => 245 | 22 => 42 | 0 => 0 | 44 => 157 | 46 => 162 | 4 => 4 | 36 => 264 | 35 => 263 | 41 => 252 | 5 => 5 | 9 => 9 | 53 => 290 | 57 => 294 | 63 => 304 | 64 => 38 | n => n, fun | n => n⟩
theorem Tryz.sort_int : Go.Proofs.SlLaysM.n5 Tryz.prog Tryz.sort_int_ren := {
  mixed := by kernel_rfl
  f5 := ⟨Tryz.f91.name, by decide, Tryz.func91.trans (congrArg some (by kernel_rfl))⟩
  f7 := ⟨Tryz.f116.name, by decide, Tryz.func116.trans (congrArg some (by kernel_rfl))⟩
  f8 := Tryz.func117.trans (congrArg some (by kernel_rfl))
  f10 := ⟨Tryz.f133.name, by decide, Tryz.func133.trans (congrArg some (by kernel_rfl))⟩
  f11 := ⟨Tryz.f134.name, by decide, Tryz.func134.trans (congrArg some (by kernel_rfl))⟩
  f12 := ⟨Tryz.f135.name, by decide, Tryz.func135.trans (congrArg some (by kernel_rfl))⟩
  f13 := ⟨Tryz.f136.name, by decide, Tryz.func136.trans (congrArg some (by kernel_rfl))⟩
  f14 := ⟨Tryz.f137.name, by decide, Tryz.func137.trans (congrArg some (by kernel_rfl))⟩
  f15 := ⟨Tryz.f138.name, by decide, Tryz.func138.trans (congrArg some (by kernel_rfl))⟩
  f16 := ⟨Tryz.f139.name, by decide, Tryz.func139.trans (congrArg some (by kernel_rfl))⟩
  f17 := ⟨Tryz.f140.name, by decide, Tryz.func140.trans (congrArg some (by kernel_rfl))⟩
  f18 := ⟨Tryz.f141.name, by decide, Tryz.func141.trans (congrArg some (by kernel_rfl))⟩
  f19 := Tryz.func142.trans (congrArg some (by kernel_rfl))
  f20 := Tryz.func143.trans (congrArg some (by kernel_rfl))
  f30 := ⟨Tryz.f159.name, by decide, Tryz.func159.trans (congrArg some (by kernel_rfl))⟩
  f31 := Tryz.func160.trans (congrArg some (by kernel_rfl))
  f32 := Tryz.func161.trans (congrArg some (by kernel_rfl))
  f33 := ⟨Tryz.f162.name, by decide, Tryz.func162.trans (congrArg some (by kernel_rfl))⟩
  f34 := ⟨Tryz.f163.name, by decide, Tryz.func163.trans (congrArg some (by kernel_rfl))⟩
  f35 := ⟨Tryz.f164.name, by decide, Tryz.func164.trans (congrArg some (by kernel_rfl))⟩
  f40 := ⟨Tryz.f174.name, by decide, Tryz.func174.trans (congrArg some (by kernel_rfl))⟩
  t0 := Tryz.underlying0
  a0 := Tryz.isAgg0
  z0 := Tryz.sizeOf0
  v0 := Tryz.zeroValue0
  t3 := Tryz.underlying3
  a3 := Tryz.isAgg3
  z3 := Tryz.sizeOf3
  v3 := Tryz.zeroValue3
  t4 := Tryz.underlying4
  a4 := Tryz.isAgg4
  z4 := Tryz.sizeOf4
  v4 := Tryz.zeroValue4
  t5 := Tryz.underlying5
  a5 := Tryz.isAgg5
  z5 := Tryz.sizeOf5
  v5 := Tryz.zeroValue5
  t9 := Tryz.underlying9
  a9 := Tryz.isAgg9
  z9 := Tryz.sizeOf9
  v9 := Tryz.zeroValue9
  t22 := Tryz.underlying42
  a22 := Tryz.isAgg42
  z22 := Tryz.sizeOf42
  v22 := Tryz.zeroValue42
  t23 := Tryz.underlying42
  a23 := Tryz.isAgg42
  z23 := Tryz.sizeOf42
  v23 := Tryz.zeroValue42
  t25 := Tryz.underlying3
  a25 := Tryz.isAgg3
  z25 := Tryz.sizeOf3
  v25 := Tryz.zeroValue3
  t32 := Tryz.underlying245
  a32 := Tryz.isAgg245
  z32 := Tryz.sizeOf245
  v32 := Tryz.zeroValue245
  t35 := Tryz.underlying263
  a35 := Tryz.isAgg263
  z35 := Tryz.sizeOf263
  v35 := Tryz.zeroValue263
  t36 := Tryz.underlying264
  a36 := Tryz.isAgg264
  z36 := Tryz.sizeOf264
  v36 := Tryz.zeroValue264
  t41 := Tryz.underlying252
  a41 := Tryz.isAgg252
  z41 := Tryz.sizeOf252
  v41 := Tryz.zeroValue252
  t44 := Tryz.underlying157
  a44 := Tryz.isAgg157
  z44 := Tryz.sizeOf157
  v44 := Tryz.zeroValue157
  t46 := Tryz.underlying162
  a46 := Tryz.isAgg162
  z46 := Tryz.sizeOf162
  v46 := Tryz.zeroValue162
  t53 := Tryz.underlying290
  a53 := Tryz.isAgg290
  z53 := Tryz.sizeOf290
  v53 := Tryz.zeroValue290
  t57 := Tryz.underlying294
  a57 := Tryz.isAgg294
  z57 := Tryz.sizeOf294
  v57 := Tryz.zeroValue294
  t63 := Tryz.underlying304
  a63 := Tryz.isAgg304
  z63 := Tryz.sizeOf304
  v63 := Tryz.zeroValue304
  t64 := Tryz.underlying38
  a64 := Tryz.isAgg38
  z64 := Tryz.sizeOf38
  v64 := Tryz.zeroValue38 }
open Go.RowKit Go.Maps Go.Sort in
theorem Tryz.sorts_int (m : Nat) : AnyZI.SortsIn Tryz.prog Tryz.sorted_int_ren Fence.wide m :=
  ⟨fun blk off cap ss W hH hblk hsz => callsIn_wide.2 (AnyM.slices_Sort_int Tryz.sort_int blk off cap ss W hH hblk hsz),
   fun p cap W => callsIn_wide.2 (AnyM.slices_Sort_int_none Tryz.sort_int p cap W)⟩
open Go.RowKit Go.Maps Go.Sort in
theorem Tryz.maps_Keys_int (mb : Option Nat) (W : World) : Calls Tryz.prog 60 #[.map mb] W fun e w' => e = .returned (.func (.func 92) #[] #[.pointer (some ⟨W.heap.size, 0, none⟩)]) ∧ w' = W.alloc (.cells #[.map mb] 46) :=
  (callsIn_wide (n := 5)).1 (AnyZI.keys_in Tryz.keys_int Fence.wide 5 trivial rfl mb W)
open Go.RowKit Go.Maps Go.Sort in
theorem Tryz.slices_Sorted_int {H : Type} (b nn : Nat) (D0 : DataW H) (R : Value → Option (DataW H × List MemPlace)) (w : World) (hown : w.ownsMap Tryz.prog 3 R b nn D0) (hmax : Maps.size D0 ≤ maxLen) (hbytes : Maps.size D0 * 8 ≤ 140737488355328) :
    Calls Tryz.prog 59 #[.func (.func 92) #[] #[.pointer (some ⟨w.heap.size, 0, none⟩)]] (w.alloc (.cells #[.map (some b)] 46)) fun e w' => ∃ (v : Value) (ss : List Int), e = .returned v ∧ ss.Perm (intKeys D0) ∧
      w'.ownsRow (w.alloc (.cells #[.map (some b)] 46)).heap.size 3 1 v ss.length ((ss.mergeSort (fun x y => decide (x ≤ y))).map encZ) ∧ (v = .slice none 0 0 ↔ ss = []) ∧ Below (w.alloc (.cells #[.map (some b)] 46)).heap.size (w.alloc (.cells #[.map (some b)] 46)) w' := by
  have hbl := hown.lt
  have hseq : SeqGives Fence.wide 2 Tryz.prog 92 #[.pointer (some ⟨w.heap.size, 0, none⟩)] encZ (fun ss => ss.Perm (intKeys D0)) (Maps.size D0) (w.alloc (.cells #[.map (some b)] 46)) :=
    AnyZI.keys_gives (ρ := Tryz.keys_int_ren) { Tryz.keys_int with } Fence.wide _ trivial rfl (by omega) w.heap.size b nn D0 _ (by simp) (by simp) (by
      obtain ⟨es, clock, hb, Ft, hs, hD⟩ := hown
      exact ⟨es, clock, (Below.heap_alloc _ _ b hbl).trans hb, Ft, hs, hD⟩)
  exact (callsIn_wide (n := 5)).1 (AnyZI.sorted_in Tryz.sorted_int Fence.wide 5 trivial trivial trivial trivial rfl (by omega) (Tryz.sorts_int _) (enters_of Tryz.func91 (by kernel_rfl) rfl) 92 #[.pointer (some ⟨w.heap.size, 0, none⟩)] trivial (enters_of Tryz.func92 (by kernel_rfl) rfl) _ _ hmax hbytes _ hseq)
end Go.Proofs
