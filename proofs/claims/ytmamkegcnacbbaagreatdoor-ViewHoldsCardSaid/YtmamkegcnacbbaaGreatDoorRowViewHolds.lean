/-
  The law ViewHolds holds for every input: the row and its card, out of the walk; taking of the package-level variables just what the card ties.
-/
import Derived.Test.YtmamkegcnacbbaaGreatDoorCards
import Derived.Test.YtmamkegcnacbbaaGreatDoorTie
import Derived.Test.YtmamkegcnacbbaaGreatDoorRowKit
import Derived.Test.YtmamkegcnacbbaaGreatDoorViewHoldsW
import Derived.SevenTiedAt
import Derived.SizedLaws
set_option linter.unusedVariables false
set_option linter.unusedSimpArgs false
namespace Go.Proofs.YtmamkegcnacbbaaGreatDoor
open Go.ChangeShapes Go.WideShapes Go.ChangeAt Go.RowKit
open Go.ChangeMaps (open_string shut_string)
open Go.Proofs.YtmamkegcnacbbaaGreatDoorW.PrintWords (Kd ReadsRow)
set_option maxRecDepth 100000 in
theorem viewHolds_lifted (os : Os) (started : os.Started) (H : Type) (enc : TypeId × Value → H) :
    ReturnsInHanded {} Tryz.checked os 4 .any (fun w args => (Rows.viewHoldsSpec.pre enc Tryz.prog Tryz.f4 Rows.viewHoldsRow.domain false w args ∧ laidMetH Tryz.prog laid3 w) ∧ sizedMet enc Tryz.prog Tryz.f4 (OpenSpec.ofChange Rows.viewHoldsSpec) false w args) (Rows.viewHoldsSpec.post enc Tryz.prog Tryz.f4 false true false false) := by
  refine returns_and_shaped (C := Tryz.checked) (X := fun w _ => laidMetH Tryz.prog laid3 w) (fun _ _ _ hh h => h.of_heap hh) own started (by kernel_rfl) Tryz.func4
    (ChangeSpec.witness_shaped (enc := enc) (C := Tryz.checked) (os := os) (X := fun w _ => laidMetH Tryz.prog laid3 w) false (wit os) #[.slice none 0 0, .slice none 0 0, .int .i64 0] 8 (wit_os os) (wit_shaped os _) (by kernel_rfl) (by kernel_rfl) (by kernel_rfl) (wit_met os _)) ?_
  intro W base args ds gs before hval0 hW hcnd hsz0 hL hsh _
  have hsz : (DataW.weightsEach Tryz.prog (Tryz.f4.params.toList ++ Rows.viewHoldsSpec.plain.varTypes Tryz.prog) (ds ++ gs)).all (· ≤ reachBytes) = true := hsz0
  have hval : ∀ (j : Nat) t v, Tryz.f4.params[j]? = some t → args[j]? = some v → Value.okWide Tryz.prog W .any base t v := hval0
  have hW' := hW
  obtain ⟨p, q, hA0, hV, rfl, hfz, hnd⟩ := hW
  have hA : DataW.TrodAll enc Tryz.prog W 0 (fun _ => true) true Tryz.f4.params.toList args.toList ds p := hA0
  rw [Tryz.params4] at hA hval hsz
  obtain ⟨v0, vs0, d0, ds0, p0, q0, hargs, rfl, rfl, h0, r0⟩ := trodAll_cons hA
  obtain ⟨v1, vs1, d1, ds1, p1, q1, rfl, rfl, rfl, h1, r1⟩ := trodAll_cons r0
  obtain ⟨v2, vs2, d2, ds2, p2, q2, rfl, rfl, rfl, h2, r2⟩ := trodAll_cons r1
  obtain ⟨rfl, rfl, rfl⟩ := trodAll_nil r2
  obtain rfl : args = #[v0, v1, v2] := by cases args; simp_all
  obtain ⟨rfl, rfl⟩ := trodVars_none hV
  obtain ⟨a0, len0, cap0, rfl⟩ := okWide_slice Tryz.underlying35 (hval 0 35 v0 rfl rfl)
  have k0 := h0
  have lt0 : ∀ x ∈ p0, x.block < W.heap.size := by obtain ⟨m, hm⟩ := k0; exact DataW.trod_lt m _ _ _ hm
  obtain ⟨l0, w0, g0⟩ := arg_slice (d := (Kd.pair Kd.string (Kd.pair (Kd.slice 5 (Kd.int .u8)) Kd.bool))) Tryz.underlying35 (by kernel_rfl) (opens_struct Tryz.underlying67 (by kernel_rfl) (opensF_cons rfl (by kernel_rfl) (opens_string Tryz.underlying9) (opensF_cons rfl (by kernel_rfl) (opens_slice Tryz.underlying61 (by kernel_rfl) (opens_int Tryz.underlying5)) (opensF_last rfl (by kernel_rfl) (opens_bool Tryz.underlying4))))) h0
  obtain ⟨a1, len1, cap1, rfl⟩ := okWide_slice Tryz.underlying22 (hval 1 22 v1 rfl rfl)
  have k1 := h1
  have lt1 : ∀ x ∈ p1, x.block < W.heap.size := by obtain ⟨m, hm⟩ := k1; exact DataW.trod_lt m _ _ _ hm
  obtain ⟨l1, w1, g1⟩ := arg_slice (d := (Kd.pair (Kd.int .i64) (Kd.pair (Kd.int .i64) (Kd.slice 67 (Kd.pair Kd.string (Kd.pair (Kd.slice 5 (Kd.int .u8)) Kd.bool)))))) Tryz.underlying22 (by kernel_rfl) (opens_struct Tryz.underlying37 (by kernel_rfl) (opensF_cons rfl (by kernel_rfl) (opens_int Tryz.underlying3) (opensF_cons rfl (by kernel_rfl) (opens_int Tryz.underlying3) (opensF_last rfl (by kernel_rfl) (opens_slice Tryz.underlying35 (by kernel_rfl) (opens_struct Tryz.underlying67 (by kernel_rfl) (opensF_cons rfl (by kernel_rfl) (opens_string Tryz.underlying9) (opensF_cons rfl (by kernel_rfl) (opens_slice Tryz.underlying61 (by kernel_rfl) (opens_int Tryz.underlying5)) (opensF_last rfl (by kernel_rfl) (opens_bool Tryz.underlying4)))))))))) h1
  obtain ⟨a2, rfl, rfl, rfl, w2⟩ := open_int Tryz.underlying3 (hval 2 3 v2 rfl rfl) h2
  clear hA0 hval0 hsz0 hsz
  refine (viewHolds_walk _ l0 _ l1 a2 W w0 g0 w1 g1 w2 ⟨et_of_laid hL, envM_of_shaped hsh⟩).mono fun e W' ⟨he, bel⟩ => ?_
  subst he
  exact ⟨_, rfl, _, _, _, [], _, [], hW', trodAll_mk1 (shut_bool Tryz.underlying4 _), (trodAll_cons_mk (Below.trod laidOut (by kernel_rfl) (of_decide_eq_true (by kernel_rfl)) k0 bel lt0) (trodAll_cons_mk (Below.trod laidOut (by kernel_rfl) (of_decide_eq_true (by kernel_rfl)) k1 bel lt1) (trodAll_cons_mk (shut_int Tryz.underlying3 w2) trodAll_mk0))), rfl, bel.frame _, fun h => by cases h⟩
theorem viewHolds_holds : Rows.ViewHoldsSaid :=
  OpenClaim.holds_of_wide 4 Tryz.f4 rfl rfl rfl rfl rfl rfl rfl ⟨rfl, rfl, rfl, rfl, rfl⟩ rfl rfl rfl rfl rfl (by kernel_rfl) Tryz.func4 (by kernel_rfl)
    (of_decide_eq_true (by kernel_rfl)) (by unfold Func.isWrapper; first | (rw [if_pos (by decide +kernel)]; kernel_rfl) | (rw [if_neg (by decide +kernel)]; exact ⟨rfl, rfl⟩))
    (fun os started H enc _ => viewHolds_lifted os started H enc)
theorem viewHolds_card : Rows.ViewHoldsCardSaid :=
  Claim7.holds_tied_plain_at .later [] [.data, .handle, .pinned] true (true, "d98df32cee15dca5a040e53789dc2b45c6d6174e4a2996acbe7e0c458869ac53") true
    viewHolds_holds (fun _ h => by cases h) (by kernel_rfl) (fun _ h => by cases h) viewHolds_row_tie rfl ⟨rfl, rfl⟩ (by kernel_rfl) rfl
    (fun f fn hf hfn => by
      obtain rfl : f = 4 := Option.some.inj ((show Tryz.prog.funcNamed "wharfinger/wharfingerlaw11.ViewHolds" = some 4 by kernel_rfl).symm.trans hf) |>.symm
      obtain rfl : fn = Tryz.f4 := (Option.some.inj (Tryz.func4.symm.trans hfn)).symm
      exact ⟨by kernel_rfl, fun j t ht => by
        rw [Tryz.params4] at ht
        have hm : t ∈ [35, 22, 3] := by simpa using Array.mem_of_getElem? ht
        have hall : ([35, 22, 3].all fun u => !Tryz.prog.wantsStandIn u) = true := by kernel_rfl
        exact (show Tryz.prog.wantsStandIn t = false by simpa using List.all_eq_true.1 hall t hm)⟩)
    (by kernel_rfl)
#print axioms viewHolds_card
end Go.Proofs.YtmamkegcnacbbaaGreatDoor
