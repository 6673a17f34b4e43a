/-
  (*Tree).Forget, walked.
-/
import Derived.Test.YtlidenehfmlebaaGreatDoorForgetQ
import Derived.Deep.LoopGhost
import Derived.Deep.CutRange
import Derived.Outline
set_option linter.unusedVariables false
set_option linter.unusedSimpArgs false
namespace Go.Proofs.YtlidenehfmlebaaGreatDoor
open Go.RowKit Go.Maps Go.WideMaps Go.WideAt
open Go.Proofs.YtlidenehfmlebaaGreatDoorW.PrintWords (Kd ReadsRow)
/-- Is a state needed, as far as one has looked? -/
def needJ (now : Int) (keep : List Int) (to0 ver : Int) (j : Nat) : Bool := (to0 == now) || (keep.take j).any fun v => decide (ver ≤ v) && decide (v ≤ to0)
theorem needJ_on {now : Int} {keep : List Int} {to0 ver : Int} {j : Nat} (hj : j < keep.length) : needJ now keep to0 ver (j + 1) = (needJ now keep to0 ver j || (decide (ver ≤ keep[j]) && decide (keep[j] ≤ to0))) := by
  unfold needJ
  rw [List.take_succ_eq_append_getElem hj, List.any_append, Bool.or_assoc]
  simp
theorem needJ_all {now : Int} {keep : List Int} {s : SRow} {rest : List SRow} : needJ now keep (toR now rest) s.ver keep.length = needR now keep s rest := by
  unfold needJ needR
  rw [List.take_length]
  congr 1
theorem RangeAs.congr {w : World} {P : Program} {k : TypeId} {b r n : Nat} {m m' : Lit → Option Value} {left left' : Lit → Bool} {cnt : Nat} (h : RangeAs w P k b r n m left cnt) (he : ∀ kl, m kl = m' kl) (hl : left = left') : RangeAs w P k b r n m' left' cnt := by
  have e : m = m' := funext he
  rw [← e, ← hl]
  exact h
def ForgetPost (g b now : Nat) (keep : List Int) (F : List FileS) (base : Nat) (w : World) (e : Ending) (w' : World) : Prop :=
  ∃ (F' : List FileS) (n : Nat), e = .returned (.int .i64 n) ∧ n + mapN F' = mapN F ∧ Forgot now keep F F' ∧ TreeAt w' base g b now F' ∧ w.grownBy w' (some b)
theorem key_path {F : List FileS} {now : Int} {keep : List Int} {left : Lit → Bool} {V : ByteArray → Value} (ho : (F.map FileS.path).Nodup) {x : ByteArray} {c : Value} (hl : left (keyS x) = true) (h : lookF (stepF now keep left V F) (keyS x) = some c) : ∃ f, fileOf F x = some f ∧ f.val = c := by
  rw [lookF_key, fileOf_step ho] at h
  cases hf : fileOf F x with
  | none => rw [hf] at h; cases h
  | some f =>
    rw [hf] at h
    have e : stepOne now keep left V f = some f := stepOne_left (by rw [(file_mem hf).2]; exact hl)
    change Option.map FileS.val (stepOne now keep left V f) = some c at h
    rw [e] at h
    exact ⟨f, rfl, Option.some.inj h⟩
set_option maxRecDepth 100000 in
set_option maxHeartbeats 16000000 in
theorem forget_any (g b now : Nat) (A : Option Addr) (c : Nat) (keep : List Int) (F : List FileS) (w : World) {base : Nat} (hkl : keep.length ≤ 1000) (hkeep : IntRow w A keep) (hr : ∀ f ∈ F, f.rows.length ≤ 90000) (hF : F.length ≤ 90000) (hrise : RiseF now F) (hnow : now ≤ 2097152) (ht : TreeAt w base g b now F) (hbase : base ≤ w.heap.size) :
    Calls Tryz.prog 69 #[.pointer (some ⟨g, 0, none⟩), .slice A keep.length c] w (ForgetPost g b now keep F base w) := by
  obtain ⟨c0, c1⟩ := tree_cells ht
  have HT := Lib.hid ht
  have HKP := Lib.hid hkeep
  have HR := Lib.hid hr
  have HRI := Lib.hid hrise
  have HNC := Lib.hid ht.noCells
  have hgl : g < w.heap.size := lt_of_block ht.cell
  have hbl : b < w.heap.size := ht.map.lt
  clear ht hkeep hr hrise
  go_enter Tryz.func69, Tryz.ntmps69
  go_wp2_with (first | (at_range; go_loud (refine wpList_range_as _ rfl _ 104 rfl 9 107 strKeyed Tryz.underlying104 b (mapN F) (lookF F) rfl HT.out.map ?_); intro w0 left0 cnt0 hrg0 hl0 hg0 hs0) | go_in)
  have HRG0 := Lib.hid hrg0
  have HL0 := Lib.hid hl0
  have HG0 := Lib.hid (World.grownBy.but hg0 (some b))
  have HB0 := Lib.hid (below_of_grown hg0)
  clear hg0 hrg0 hl0
  have hstart : stepF now keep left0 (fun _ => .nilIface) F = F := step_start (fun f hf => (HL0.out (keyS f.path) trivial).trans (path_look (List.mem_map.2 ⟨f, hf, rfl⟩)))
  have HST := Lib.hid hstart
  clear hstart
  go_frame
  go_loopw [5] (fun nv wr => ∃ (left : Lit → Bool) (cnt : Nat) (V : ByteArray → Value), RangeAs wr Tryz.prog 9 b w.heap.size (mapN F) (lookF (stepF now keep left V F)) left cnt ∧ FilesIn wr base (stepF now keep left V F) ∧ w.grownBy wr (some b) ∧ nv = .int .i64 ((goneN now keep F left : Nat) : Int)) (fun _ wr => wr.rangeLeft b w.heap.size)
  case atStart => exact ⟨left0, cnt0, fun _ => .nilIface, by rw [HST.out]; exact HRG0.out, by rw [HST.out]; exact ⟨fun f hf => (HT.out.files f hf).below HB0.out, HT.out.apart⟩, HG0.out, by rw [goneN_start (fun p hp => (HL0.out (keyS p) trivial).trans (path_look hp))]; rfl⟩
  case round =>
    obtain ⟨left, cnt, V, hrg, hfi, hgr, rfl⟩ := hrel
    have HRG := Lib.hid hrg
    have HFI := Lib.hid hfi
    have HGR := Lib.hid hgr
    have hszr := hgr.size
    have HLE := Lib.hid (goneN_le (now := now) (keep := keep) (left := left) HR.out)
    obtain ⟨n0, hn0⟩ : ∃ n0, n0 = goneN now keep F left := ⟨_, rfl⟩
    rw [← hn0] at HLE ⊢
    have HN0 := Lib.hid hn0
    have hn0l : n0 ≤ 8100000000 := Nat.le_trans HLE.out (Nat.mul_le_mul_right 90000 hF)
    clear hrg hfi hgr hn0 HLE
    go_wp2_with (first | (at_next; refine wpList_next_as _ rfl _ rfl 9 Tryz.underlying9 strKeyed b w.heap.size (mapN F) (lookF (stepF now keep left V F)) _ _ rfl HRG.out ?_ ?_) | go_in)
    · intro hnone
      have HNO := Lib.hid hnone
      clear hnone
      go_wp2_with fail
      go_ret
      have hfo := step_end (now := (now : Int)) (keep := keep) (V := V) (F := F) HNO.out
      have hsum := mapN_forgot hfo
      rw [← goneN_end (left := left) HT.out.once HNO.out, ← HN0.out] at hsum
      refine ⟨stepF now keep left V F, n0, rfl, hsum, hfo, ?_, HGR.out⟩
      have hpos : ∀ f ∈ stepF now keep left V F, 0 < f.rows.length := fun f hf => (HFI.out.files f hf).2.1
      have honce := hfo.once HT.out.once
      refine ⟨(HGR.out.block g hgl (fun e => ?_)).trans HT.out.cell, HT.out.hg, HT.out.hb, ?_, honce, HFI.out.apart, HFI.out.files⟩
      · injection e with e
        exact HNC.out _ _ _ (e ▸ HT.out.cell)
      · refine (HRG.out.map.tight strKeyed (ks := (stepF now keep left V F).map fun f => keyS f.path) (fun kl hkl hs => ?_)).mono (by rw [List.length_map]; exact (mapN_len hpos).1)
        rcases lit_cases kl with ⟨q, rfl⟩ | h
        · obtain ⟨v, hv⟩ := Option.isSome_iff_exists.1 hs
          obtain ⟨f, hf, e⟩ := List.mem_map.1 (look_path hv)
          exact List.mem_map.2 ⟨f, hf, by rw [e]⟩
        · rw [look_other _ _ h] at hs
          cases hs
    · intro x cv w1 cnt1 hxm hlx hmx hrg1 hlt hg1 hs1 hen
      obtain ⟨f, hf, rfl⟩ := key_path HT.out.once hlx hmx
      have hnc := HRG.out.no_cells
      have hfi1 := HFI.out.other hnc.1 hg1
      have hgr1 : w.grownBy w1 (some b) := World.grownBy.andThen HGR.out hg1 (fun j hj => .inl (by cases hj; exact Nat.le_refl _))
      obtain ⟨hfm, hfp⟩ := file_mem hf
      have hfa : FileAt w1 base f := hfi1.files f (List.mem_filterMap.2 ⟨f, hfm, stepOne_left (by rw [hfp]; exact hlx)⟩)
      obtain ⟨bb, oo, cc, hval, hcc, hcell⟩ := rows_form hfa
      have hrl := HR.out f hfm
      have hri := HRI.out f hfm
      have HF := Lib.hid hf
      have HLX := Lib.hid hlx
      have HRG1 := Lib.hid hrg1
      have HFI1 := Lib.hid hfi1
      have HGR1 := Lib.hid hgr1
      have HC1 := Lib.hid hcell
      have HRI1 := Lib.hid hri
      have HVAL := Lib.hid hval
      have HFM := Lib.hid hfm
      have HFA := Lib.hid hfa
      have HLT : Hid (cnt1 < wr.rangeLeft b w.heap.size) := Lib.hid (by rw [HRG.out.left_eq]; exact hlt)
      have hsz1 := hgr1.size
      have hcg : w1.heap[g]? = some (Obj.cells #[.int .i64 now, .map (some b)] 106 (0, 0)) := (hgr1.block g hgl (fun e => by injection e with e; exact HNC.out _ _ _ (e ▸ HT.out.cell))).trans HT.out.cell
      have HCG := Lib.hid hcg
      rw [hval] at hen ⊢
      have HKP1 := Lib.hid (HKP.out.grown HNC.out hgr1)
      clear hf hlx hmx hrg1 hlt hg1 hnc hfi1 hgr1 hfm hfa hcell hri hval hcg c0 c1
      obtain ⟨wA, rfl⟩ : ∃ W, W = wr := ⟨wr, rfl⟩
      go_wp2_with fail
      go_loopw [5, 8, 27] (fun nv lv i wv => ∃ k : Nat, k ≤ f.rows.length ∧ i = .int .i64 k ∧ wv.ownsRow w1.heap.size 157 3 lv (keptK now keep f.rows k).length ((keptK now keep f.rows k).flatMap SRow.cells) ∧ Below w1.heap.size w1 wv ∧ nv = .int .i64 ((n0 + (k - (keptK now keep f.rows k).length) : Nat) : Int)) (fun _ _ i _ => f.rows.length - (intOf i).toNat)
      case atStart => exact ⟨0, by omega, rfl, ⟨rfl, .inl ⟨rfl, rfl⟩⟩, Below.refl _ _, by simp [keptK]⟩
      case round =>
        obtain ⟨k, hk, rfl, hol, hbv, rfl⟩ := hrel
        obtain ⟨wv, rfl⟩ : ∃ W, W = wr := ⟨wr, rfl⟩
        have HOL := Lib.hid hol
        have HBV := Lib.hid hbv
        have hkl2 := keptK_len now keep f.rows k
        obtain ⟨m, hm⟩ : ∃ m, m = (keptK now keep f.rows k).length := ⟨_, rfl⟩
        rw [← hm] at hkl2 ⊢
        have HM := Lib.hid hm
        have hszv := hbv.size
        clear hol hbv hm
        by_cases hlt : k < f.rows.length
        · obtain ⟨x1, x2, x3⟩ := HC1.out k hlt
          obtain ⟨r, hr⟩ : ∃ r, r = f.rows[k] := ⟨_, rfl⟩
          rw [← hr] at x1 x2 x3
          have hrv := HRI1.out.2 r (hr ▸ List.getElem_mem hlt)
          have hgd : f.rows.getD k zS = r := by rw [hr]; simp [List.getD, hlt]
          have HGD := Lib.hid hgd
          obtain ⟨Ad, cd, hvf, _⟩ := own_bytes (HFA.out.2.2.1 r (hr ▸ List.getElem_mem hlt)).1
          have HRC : Hid (SRow.cells r = [.int .i64 r.ver, .slice Ad r.data.length cd, .bool r.gone]) := Lib.hid (by rw [SRow.cells, hvf])
          rw [hvf] at x2
          clear hvf
          replace x1 := cell_below HBV.out x1
          replace x2 := cell_below HBV.out x2
          replace x3 := cell_below HBV.out x3
          have hbo := below_one wv (.cells #[.int .i64 r.ver, .slice Ad r.data.length cd, .bool r.gone] 157)
          have HBO := Lib.hid (below_from HBV.out hbo)
          have HOB : Hid ((wv.alloc (.cells #[.int .i64 r.ver, .slice Ad r.data.length cd, .bool r.gone] 157)).heap[wv.heap.size]? = some (.cells #[.int .i64 r.ver, .slice Ad r.data.length cd, .bool r.gone] 157 (0, 0))) := Lib.hid (heap_alloc_new wv _)
          obtain ⟨tc0, tc1⟩ : (wv.alloc (.cells #[.int .i64 r.ver, .slice Ad r.data.length cd, .bool r.gone] 157)).cell? ⟨g, 0, none⟩ = some (.int .i64 now) ∧ True := by
            have := block_below HCG.out HBO.out
            exact ⟨by simp [World.cell?, this], trivial⟩
          have HOL2 := Lib.hid (own_stay HOL.out hbo)
          have HKP2 := Lib.hid (HKP1.out.below HBO.out)
          have hszo := HBO.out.size
          clear hr hgd hbo tc1
          obtain ⟨to0, hto0⟩ : ∃ to0, to0 = toR now (f.rows.drop (k + 1)) := ⟨_, rfl⟩
          have HTO := Lib.hid hto0
          clear hto0
          go_upto_if 40 with fail
          generalize hW2 : wv.alloc (.cells #[.int .i64 r.ver, .slice Ad r.data.length cd, .bool r.gone] 157) = W2 at *
          go_cut [11] from 40 to 47 (fun tv wc => tv = .int .i64 to0 ∧ wc = W2)
          case first =>
            by_cases hk1 : k + 1 < f.rows.length
            · have d1 : decide ((k : Int) + 1 < (f.rows.length : Int)) = true := decide_eq_true (by omega)
              obtain ⟨z1, _, _⟩ := HC1.out (k + 1) hk1
              have hrv1 := HRI1.out.2 f.rows[k + 1] (List.getElem_mem hk1)
              have hto : to0 = f.rows[k + 1].ver - 1 := by rw [HTO.out, toR_at, dif_pos hk1]
              obtain ⟨v1, hv1⟩ : ∃ v1, v1 = f.rows[k + 1].ver := ⟨_, rfl⟩
              rw [← hv1] at z1 hrv1 hto
              replace z1 := cell_below HBO.out z1
              have HTO2 := Lib.hid hto
              clear hto hv1
              go_wp2_with fail
              go_meet
              case rel => exact ⟨by rw [HTO2.out], rfl⟩
            · have d1 : decide ((k : Int) + 1 < (f.rows.length : Int)) = false := decide_eq_false (by omega)
              have hto : to0 = now := by rw [HTO.out, toR_at, dif_neg hk1]
              go_wp2_with fail
              go_meet
              case rel => exact ⟨by rw [hto], rfl⟩
          case rest =>
            obtain ⟨rfl, rfl⟩ := hcut
            go_wp2_with fail
            go_loopw [12, 56] (fun nb i wz => ∃ j : Nat, j ≤ keep.length ∧ i = .int .i64 j ∧ nb = .bool (needJ now keep to0 r.ver j) ∧ Below wc.heap.size wc wz) (fun _ i _ => keep.length - (intOf i).toNat)
            case atStart => exact ⟨0, by omega, rfl, by simp [needJ], Below.refl _ _⟩
            case round =>
              obtain ⟨j, hj, rfl, rfl, hbz⟩ := hrel
              obtain ⟨wz, rfl⟩ : ∃ W, W = wr := ⟨wr, rfl⟩
              have HBZ := Lib.hid hbz
              have HOBZ := Lib.hid (block_below HOB.out hbz)
              have q1 : wz.cell? ⟨wv.heap.size, 0, none⟩ = some (.int .i64 r.ver) := by simp [World.cell?, HOBZ.out]
              obtain ⟨nj, hnj⟩ : ∃ nj, nj = needJ now keep to0 r.ver j := ⟨_, rfl⟩
              rw [← hnj]
              have HNJ := Lib.hid hnj
              clear hbz hnj
              by_cases hjl : j < keep.length
              · obtain ⟨ad, rfl, hkc⟩ := (HKP2.out.below HBZ.out) (by omega)
                have x4 := hkc j hjl
                obtain ⟨kv, hkv⟩ : ∃ kv, kv = keep[j] := ⟨_, rfl⟩
                rw [← hkv] at x4
                have hnx : needJ now keep to0 r.ver (j + 1) = (nj || (decide (r.ver ≤ kv) && decide (kv ≤ to0))) := by rw [HNJ.out, hkv]; exact needJ_on hjl
                have HNX := Lib.hid hnx
                clear hkc hkv hnx
                cases nj with
                | true =>
                  go_wp2_with fail
                  go_roundw
                  case rel => exact ⟨j + 1, by omega, by go_num, by rw [HNX.out]; first | rfl | (rw [d2, d3]; rfl) | (rw [d2]; rfl), HBZ.out⟩
                  case measure => simp [intOf]; omega
                | false =>
                  by_cases e1 : r.ver ≤ kv
                  · have d2 : decide (r.ver ≤ kv) = true := decide_eq_true e1
                    by_cases e2 : kv ≤ to0
                    · have d3 : decide (kv ≤ to0) = true := decide_eq_true e2
                      go_wp2_with fail
                      go_roundw
                      case rel => exact ⟨j + 1, by omega, by go_num, by rw [HNX.out]; first | rfl | (rw [d2, d3]; rfl) | (rw [d2]; rfl), HBZ.out⟩
                      case measure => simp [intOf]; omega
                    · have d3 : decide (kv ≤ to0) = false := decide_eq_false e2
                      go_wp2_with fail
                      go_roundw
                      case rel => exact ⟨j + 1, by omega, by go_num, by rw [HNX.out]; first | rfl | (rw [d2, d3]; rfl) | (rw [d2]; rfl), HBZ.out⟩
                      case measure => simp [intOf]; omega
                  · have d2 : decide (r.ver ≤ kv) = false := decide_eq_false e1
                    go_wp2_with fail
                    go_roundw
                    case rel => exact ⟨j + 1, by omega, by go_num, by rw [HNX.out]; first | rfl | (rw [d2, d3]; rfl) | (rw [d2]; rfl), HBZ.out⟩
                    case measure => simp [intOf]; omega
              · obtain rfl : j = keep.length := by omega
                have hnr : needR now keep r (f.rows.drop (k + 1)) = nj := by rw [HNJ.out, HTO.out]; exact needJ_all.symm
                have HKN : Hid (keptK now keep f.rows (k + 1) = keptK now keep f.rows k ++ (if nj then [r] else [])) := Lib.hid (by rw [keptK, HGD.out, hnr])
                have q2 : wz.cell? ⟨wv.heap.size, 1, none⟩ = some (.slice Ad r.data.length cd) := by simp [World.cell?, HOBZ.out]
                have q3 : wz.cell? ⟨wv.heap.size, 2, none⟩ = some (.bool r.gone) := by simp [World.cell?, HOBZ.out]
                have HBZ1 := Lib.hid (below_from HBO.out HBZ.out)
                have HOLZ := Lib.hid (own_stay HOL2.out HBZ.out)
                have hszz := HBZ1.out.size
                clear hnr
                cases nj with
                | true =>
                  have hkb : (keptK now keep f.rows k).length ≤ 90000 := by have := keptK_len now keep f.rows k; omega
                  obtain ⟨i0, hi0, hz0, hz1, hz2⟩ := info_parts infoState
                  go_wp2_with (at_builtin; go_loud (refine wpList_append_own _ rfl (.tmp 74) (.tmp 76) 107 rfl w1.heap.size 157 i0 (.agg #[.int .i64 0, .slice none 0 0, .bool false]) 3 40 Tryz.underlying107 hi0 hz0 hz1 hz2 rfl (by decide) u8 (keptK now keep f.rows k).length ((keptK now keep f.rows k).flatMap SRow.cells) (by simp [Act.eval, Act.put]) (own_stay HOLZ.out (below_one _ _)) ⟨wz.heap.size, 0, none⟩ 1 1 [.int .i64 r.ver, .slice Ad r.data.length cd, .bool r.gone] (by simp [Act.eval, Act.put]) rfl (src_three wz _ _ _ _) (fun u hu => one_three rfl hu) (by unfold maxLen; omega) (by omega) (by simp; omega) ?_); intro v4 w4 hown4 hg4 _)
                  have hbn := below_one wz (.cells #[.int .i64 r.ver, .slice Ad r.data.length cd, .bool r.gone] 157)
                  have HB4 := Lib.hid ((below_from HBZ1.out hbn).grown hg4 (below_from HBZ1.out hbn).size (fun k hk => (HOLZ.out.lt k hk).1))
                  have HOL4 := Lib.hid hown4
                  clear hown4 hg4 hbn
                  go_wp2_with fail
                  go_roundw
                  case rel => exact ⟨k + 1, by omega, by go_num, by rw [HKN.out]; simpa [HRC.out] using HOL4.out, HB4.out, by rw [HKN.out]; simp [← HM.out]⟩
                  case measure => simp [intOf]; omega
                | false =>
                  go_wp2_with fail
                  go_roundw
                  case rel => exact ⟨k + 1, by omega, by go_num, by rw [HKN.out]; simpa using HOLZ.out, HBZ1.out, by rw [HKN.out]; simp [← HM.out]; omega⟩
                  case measure => simp [intOf]; omega
        · obtain rfl : k = f.rows.length := by omega
          have hkr : keptK now keep f.rows f.rows.length = keptR now keep f.rows := keptK_all _ _ _
          have HOFF : Hid (OffRow wv w1.heap.size 157 3 u8 (keptR now keep f.rows).length ((keptR now keep f.rows).flatMap SRow.cells)) := Lib.hid (OffRow.of (hkr ▸ HOL.out))
          have HMK : Hid (m = (keptR now keep f.rows).length) := Lib.hid (hkr ▸ HM.out)
          have hkey := keyOf_string_mk (P := Tryz.prog) Tryz.underlying9 hxm
          clear hkr
          go_wp2_with fail
          go_loopw [5, 8] (fun nv lv wz => ∃ lst : List SRow, (keptR now keep f.rows).dropWhile SRow.gone = lst.dropWhile SRow.gone ∧ lst.length ≤ m ∧ OffRow wz w1.heap.size 157 3 lv lst.length (lst.flatMap SRow.cells) ∧ Below wv.heap.size wv wz ∧ nv = .int .i64 ((n0 + (f.rows.length - lst.length) : Nat) : Int)) (fun _ lv _ => match lv with | .slice _ n _ => n | _ => 0)
          case atStart => exact ⟨keptR now keep f.rows, rfl, Nat.le_of_eq HMK.out.symm, HOFF.out, Below.refl _ _, by rw [HMK.out]⟩
          case round =>
            obtain ⟨lst, hdw, hll, hor, hbz, rfl⟩ := hrel
            obtain ⟨wz, rfl⟩ : ∃ W, W = wr := ⟨wr, rfl⟩
            have HDW := Lib.hid hdw
            have HBZ := Lib.hid (below_from HBV.out hbz)
            have HBVZ := Lib.hid hbz
            have HOZ := Lib.hid hor
            have hcz := block_below HCG.out HBZ.out
            have tc0 : wz.cell? ⟨g, 0, none⟩ = some (.int .i64 now) := by simp [World.cell?, hcz]
            have tc1 : wz.cell? ⟨g, 1, none⟩ = some (.map (some b)) := by simp [World.cell?, hcz]
            clear hdw hor hbz hcz
            cases lst with
            | nil =>
              obtain ⟨Az, cz, rfl, _, _⟩ := HOZ.out.slice
              have hfr : forgetR now keep f.rows = [] := by
                unfold forgetR
                rw [HDW.out]
                rfl
              have hem : (forgetR now keep f.rows).isEmpty = true := by rw [hfr]; rfl
              have hlks := fun kl => (look_step (left := left) (V := V) HT.out.once HF.out (.slice Az 0 cz) kl).2 hem
              have hrgz := HRG1.out.below HBZ.out
              obtain ⟨w5, hrun5, hrg5, hg5⟩ := hrgz.store strKeyed Tryz.underlying104 (key := .string x) (.slice Az 0 cz) hkey (by
                have e := fileOf_step (now := (now : Int)) (keep := keep) (left := left) (V := V) HT.out.once x
                rw [HF.out] at e
                have e2 : lookF (stepF now keep left V F) (keyS x) = some f.val := by
                  rw [lookF_key, e]
                  show Option.map FileS.val (stepOne now keep left V f) = _
                  rw [stepOne_left (by rw [hfp]; exact HLX.out)]
                  rfl
                show (lookF (stepF now keep left V F) (keyS x)).isSome = true
                rw [e2]
                rfl)
              obtain ⟨w6, cnt6, hrun6, hrg6, hle6, hg6⟩ := hrg5.drop strKeyed Tryz.underlying104 (key := .string x) hkey 0
              have HRG6 := Lib.hid (hrg6.congr hlks (Maps.strike_twice left (keyS x)))
              obtain ⟨es, ck, hmz⟩ := hrgz.map.isMap
              obtain ⟨es5, ck5, hm5⟩ := hrg5.map.isMap
              have hfi := ((step_next (v := .slice Az 0 cz) HT.out.once HF.out HLX.out HFI1.out HBZ.out (Nat.le_trans hbase hsz1) (by rw [hfr]; exact HOZ.out)).mapped hmz hg5).mapped hm5 hg6
              have HFI5 := Lib.hid hfi
              have hgr5 := World.grownBy.andThen (HGR1.out.andThen (grown_of_below HBZ.out) (fun j hj => by cases hj)) hg5 (fun j hj => .inr hj)
              have tc5 : w5.cell? ⟨g, 1, none⟩ = some (.map (some b)) := cell_grown hrgz.no_cells.2 hg5 tc1
              have HGR5 := Lib.hid (hgr5.andThen hg6 (fun j hj => .inr hj))
              have HMEAS : Hid (w6.rangeLeft b w.heap.size < wA.rangeLeft b w.heap.size) := Lib.hid (by rw [hrg6.left_eq]; exact Nat.lt_of_le_of_lt hle6 HLT.out)
              have HGN : Hid (goneN now keep F (nextL left x) = n0 + (f.rows.length - 0)) := Lib.hid (by
                rw [goneN_next HT.out.once (List.mem_map.2 ⟨f, HFM.out, hfp⟩) HLX.out, ← HN0.out, dropN, ← hfp, rowsOf_mem HT.out.once HFM.out, hfr]
                rfl)
              clear hlks hrgz hrg5 hmz hfi hg5 hfr hem hrg6 hg6 hm5 hgr5
              go_wp2_with fail
              go_roundw
              case rel => exact ⟨nextL left x, cnt6, nextV V x (.slice Az 0 cz), HRG6.out, HFI5.out, HGR5.out, by rw [HGN.out]; rfl⟩
              case measure => exact HMEAS.out
            | cons r0 rest =>
              obtain ⟨gz, oz, capz, rfl, _, _, _, hcell⟩ := HOZ.out.form (by simp)
              have q3 : wz.cell? ⟨gz, oz + 2, none⟩ = some (.bool r0.gone) := hcell 2 (by simp; omega)
              clear hcell
              have hlr : (r0 :: rest).length = rest.length + 1 := rfl
              rw [hlr] at hll ⊢
              cases hg0 : r0.gone with
              | true =>
                rw [hg0] at q3
                have htl := (show OffRow wz w1.heap.size 157 3 (.slice (some ⟨gz, oz, none⟩) (rest.length + 1) capz) (rest.length + 1) (SRow.cells r0 ++ rest.flatMap SRow.cells) from HOZ.out).tail rfl
                have HTL := Lib.hid htl
                have HDW2 : Hid ((keptR now keep f.rows).dropWhile SRow.gone = rest.dropWhile SRow.gone) := Lib.hid (HDW.out.trans (by rw [List.dropWhile_cons, hg0]; rfl))
                clear htl
                by_cases hcap : capz = 1
                · subst hcap
                  go_wp2_with fail
                  go_roundw
                  case rel => exact ⟨rest, HDW2.out, by omega, HTL.out.1 rfl, HBVZ.out, by go_num⟩
                  case measure => simp
                · go_wp2_with fail
                  go_roundw
                  case rel => exact ⟨rest, HDW2.out, by omega, HTL.out.2 hcap, HBVZ.out, by go_num⟩
                  case measure => simp
              | false =>
                rw [hg0] at q3
                have hfr : forgetR now keep f.rows = r0 :: rest := by
                  unfold forgetR
                  rw [HDW.out, List.dropWhile_cons, hg0]
                  rfl
                have hem : (forgetR now keep f.rows).isEmpty = false := by rw [hfr]; rfl
                have hlks := fun kl => (look_step (left := left) (V := V) HT.out.once HF.out (.slice (some ⟨gz, oz, none⟩) (rest.length + 1) capz) kl).1 hem
                have hrgz := HRG1.out.below HBZ.out
                obtain ⟨w5, hrun5, hrg5, hg5⟩ := hrgz.store strKeyed Tryz.underlying104 (key := .string x) (.slice (some ⟨gz, oz, none⟩) (rest.length + 1) capz) hkey (by
                  have e := fileOf_step (now := (now : Int)) (keep := keep) (left := left) (V := V) HT.out.once x
                  rw [HF.out] at e
                  have e2 : lookF (stepF now keep left V F) (keyS x) = some f.val := by
                    rw [lookF_key, e]
                    show Option.map FileS.val (stepOne now keep left V f) = _
                    rw [stepOne_left (by rw [hfp]; exact HLX.out)]
                    rfl
                  show (lookF (stepF now keep left V F) (keyS x)).isSome = true
                  rw [e2]
                  rfl)
                have HRG5 := Lib.hid (hrg5.congr hlks rfl)
                obtain ⟨es, ck, hmz⟩ := hrgz.map.isMap
                have hfi := (step_next (v := .slice (some ⟨gz, oz, none⟩) (rest.length + 1) capz) HT.out.once HF.out HLX.out HFI1.out HBZ.out (Nat.le_trans hbase hsz1) (by rw [hfr]; exact HOZ.out)).mapped hmz hg5
                have HFI5 := Lib.hid hfi
                have HGR5 := Lib.hid (World.grownBy.andThen (HGR1.out.andThen (grown_of_below HBZ.out) (fun j hj => by cases hj)) hg5 (fun j hj => .inr hj))
                have HMEAS : Hid (w5.rangeLeft b w.heap.size < wA.rangeLeft b w.heap.size) := Lib.hid (by rw [hrg5.left_eq]; exact HLT.out)
                have HGN : Hid (goneN now keep F (nextL left x) = n0 + (f.rows.length - (rest.length + 1))) := Lib.hid (by
                  rw [goneN_next HT.out.once (List.mem_map.2 ⟨f, HFM.out, hfp⟩) HLX.out, ← HN0.out, dropN, ← hfp, rowsOf_mem HT.out.once HFM.out, hfr]
                  rfl)
                clear hlks hrgz hrg5 hmz hfi hg5 hfr hem
                go_wp2_with fail
                go_roundw
                case rel => exact ⟨nextL left x, cnt1, nextV V x (.slice (some ⟨gz, oz, none⟩) (rest.length + 1) capz), HRG5.out, HFI5.out, HGR5.out, by rw [HGN.out]⟩
                case measure => exact HMEAS.out
end Go.Proofs.YtlidenehfmlebaaGreatDoor
