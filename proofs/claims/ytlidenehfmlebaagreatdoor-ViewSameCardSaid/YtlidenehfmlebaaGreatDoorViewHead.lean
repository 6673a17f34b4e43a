/-
  The laws' 'looks'.
-/
import Derived.Test.YtlidenehfmlebaaGreatDoorViewUnpin
import Derived.Outline
set_option linter.unusedVariables false
set_option linter.unusedSimpArgs false
namespace Go.Proofs.YtlidenehfmlebaaGreatDoor
open Go.RowKit Go.Maps Go.WideMaps Go.WideAt
theorem puts_none {n B : Nat} {F F' : List FileS} {l : List ChgD} (h : Puts n B F l F') (hl : l = []) : F' = F := by
  cases h with
  | none => rfl
  | one c v dv h hd => simp at hl
theorem puts_one {n B : Nat} {F F' : List FileS} {l : List ChgD} (h : Puts n B F l F') : ∀ c, l = [c] → ∃ v dv, F' = putS F c.1 v ⟨n, dv, c.2.1, c.2.2⟩ := by
  cases h with
  | none => exact fun c e => by cases e
  | @one F2 l0 c0 v dv h0 hd =>
    intro c e
    have hl : l0 = [] := by
      cases l0 with
      | nil => rfl
      | cons a t => simp at e
    subst hl
    have hc : c0 = c := by simpa using e
    subst hc
    rw [puts_none h0 rfl]
    exact ⟨v, dv, rfl⟩
theorem forgot_one {now : Int} {keep : List Int} {p : ByteArray} {v : Value} {rows rows' : List SRow} {F' : List FileS} (h : Forgot now keep [⟨p, v, rows⟩] F') (hr : forgetR now keep rows = rows') (hn : rows' ≠ []) : ∃ v', F' = [⟨p, v', rows'⟩] := by
  unfold Forgot at h
  have e : ([(⟨p, v, rows⟩ : FileS)].map fun f => (f.path, forgetR now keep f.rows)).filter (fun x => !x.2.isEmpty) = [(p, rows')] := by
    simp only [List.map_cons, List.map_nil, hr]
    rw [List.filter_cons, if_pos (by cases rows' <;> simp at hn ⊢)]
    rfl
  rw [e] at h
  cases F' with
  | nil => cases h
  | cons a t =>
    cases t with
    | cons b u => simp at h
    | nil =>
      have h2 : (a.path, a.rows) = (p, rows') := by simpa using h
      injection h2 with h3 h4
      exact ⟨a.val, by cases a; simp at h3 h4; rw [h3, h4]⟩
theorem slit_commit (s g b pm now x : Nat) (p : ByteArray) (F : List FileS) (L : List Int) (W : World) {base : Nat} (hx : x < 256) (hp : checkB p = none) (hps : p.size ≤ 64) (hF : ∀ f ∈ F, f.path = p) (hL : L.length ≤ 1000) (hm : mapN F ≤ 80000) (hnow : now < 1048576) (hrise : RiseF now F) (hst : StoreAt W base s g b pm now F L) (hbase : base ≤ W.heap.size) (hg : EnvM W) :
    Calls Tryz.prog 19 #[.pointer (some ⟨s, 0, none⟩), .slice (some ⟨W.heap.size + 1, 0, none⟩) 1 1] (litW W p x) fun e w' => ∃ v dv F', e = .returned (.tuple #[.int .i64 ((now : Int) + 1), .nilIface]) ∧ Forgot ((now + 1 : Nat) : Int) L (putS F p v ⟨((now + 1 : Nat) : Int), dv, [(x : Int)], false⟩) F' ∧ StoreAt w' base s g b pm (now + 1) F' L ∧ Below base W w' := by
  have hb := lit_below W p x
  have h1 : (W.alloc (.cells #[.int .u8 x] 5 (1, 2))).heap.size = W.heap.size + 1 := by simp
  have h2 := heap_alloc_new (W.alloc (.cells #[.int .u8 x] 5 (1, 2))) (.cells #[.string p, .slice (some ⟨W.heap.size, 0, none⟩) 1 1, .bool false] 66)
  rw [h1] at h2
  have h3 : (litW W p x).heap[W.heap.size]? = some (.cells #[.int .u8 x] 5 (1, 2)) := by
    have := (below_one (W.alloc (.cells #[.int .u8 x] 5 (1, 2))) (.cells #[.string p, .slice (some ⟨W.heap.size, 0, none⟩) 1 1, .bool false] 66)).block W.heap.size (by omega)
    exact this.trans (heap_alloc_new W _)
  have hin : BytesIn (litW W p x) (some ⟨W.heap.size, 0, none⟩) [(x : Int)] := .inr ⟨_, _, _, rfl, h3, fun j u hj => by
    match j, hj with
    | 0, hj => simpa [u8V] using hj⟩
  refine (scommit_any s g b pm now (some ⟨W.heap.size + 1, 0, none⟩) 1 [(p, [(x : Int)], false)] F L (litW W p x) (base := base) hL (by simp) (fun W' _ hf => chg_one h2 hin (by simp) (hst.below hb).tree.noCells hf) (good_one p [(x : Int)] false (by omega) (wf_x x hx) (by simp)) hm (by omega) hrise (Nat.le_trans hbase hb.size) (hst.below hb) (hg.below hb)).mono ?_
  rintro e w' (⟨hno, _⟩ | ⟨_, B, F1, F', rfl, hpu, hfo, _, hs, hB, _⟩)
  · exact absurd (chk_put hp hF (by simp) hnow) hno
  · obtain ⟨v, dv, rfl⟩ := puts_one hpu _ rfl
    exact ⟨v, dv, F', rfl, hfo, hs, (hb.mono hbase).trans hB⟩
theorem look_rows1 (dv : Value) : forgetR ((0 + 1 : Nat) : Int) [] [⟨((0 + 1 : Nat) : Int), dv, [120], false⟩] = [⟨((0 + 1 : Nat) : Int), dv, [120], false⟩] := by
  simp [forgetR, keptR, needR, toR]
theorem look_rows2 (dv dv2 : Value) : forgetR ((1 + 1 : Nat) : Int) [1] [⟨((0 + 1 : Nat) : Int), dv, [120], false⟩, ⟨((1 + 1 : Nat) : Int), dv2, [121], false⟩] = [⟨((0 + 1 : Nat) : Int), dv, [120], false⟩, ⟨((1 + 1 : Nat) : Int), dv2, [121], false⟩] := by
  simp [forgetR, keptR, needR, toR]
theorem look_rows3 (dv dv2 : Value) : forgetR ((1 + 1 : Nat) : Int) [] [⟨((0 + 1 : Nat) : Int), dv, [120], false⟩, ⟨((1 + 1 : Nat) : Int), dv2, [121], false⟩] = [⟨((1 + 1 : Nat) : Int), dv2, [121], false⟩] := by
  simp [forgetR, keptR, needR, toR]
set_option maxRecDepth 100000 in
set_option maxHeartbeats 8000000 in
theorem looks_any (w : World) (hg : EnvM w) : Calls Tryz.prog 6 #[] w fun e w' => e = .returned (.bool true) ∧ Below w.heap.size w w' := by
  have HG := Lib.hid hg
  have vx := fun W : World => Lib.run_convert_bytes_const (P := Tryz.prog) W 55 5 #[.int .u8 120] 1 1 Tryz.underlying55 Tryz.underlying5
  have vy := fun W : World => Lib.run_convert_bytes_const (P := Tryz.prog) W 55 5 #[.int .u8 121] 1 1 Tryz.underlying55 Tryz.underlying5
  clear hg
  go_enter Tryz.func6, Tryz.ntmps6
  go_wp2_with fail
  refine (new_store w).mono ?_
  rintro e w1 ⟨s, g, b, pm, rfl, hs1, hb1⟩
  have HS1 := Lib.hid hs1
  have HB1 := Lib.hid hb1
  clear hs1 hb1
  go_wp2_with fail
  refine (slit_commit s g b pm 0 120 ⟨#[97]⟩ [] [] w1 (base := w.heap.size) (by omega) path_a (by decide) (fun f hf => by cases hf) (by simp) (by simp [mapN]) (by omega) (rise_none _) HS1.out HB1.out.size (HG.out.below HB1.out)).mono ?_
  rintro e w2 ⟨v1, dv1, F1, rfl, hf1, hs2, hb2⟩
  have hput1 : putS [] ⟨#[97]⟩ v1 ⟨((0 + 1 : Nat) : Int), dv1, [((120 : Nat) : Int)], false⟩ = [⟨⟨#[97]⟩, v1, [⟨((0 + 1 : Nat) : Int), dv1, [120], false⟩]⟩] := rfl
  rw [hput1] at hf1
  obtain ⟨w1v, rfl⟩ := forgot_one hf1 (look_rows1 dv1) (by simp)
  have HS2 := Lib.hid hs2
  have HB2 := Lib.hid (HB1.out.trans hb2)
  have hbs2 : w.heap.size ≤ w2.heap.size := HB2.out.size
  clear hs2 hb2 hf1 hput1
  go_wp2_with fail
  refine (pin_any s g b pm (0 + 1) _ [] w2 (base := w.heap.size) (by simp) (by omega) hbs2 HS2.out).mono ?_
  rintro e w3 (⟨h64, _⟩ | ⟨_, rfl, hs3, hb3, _⟩)
  · cases h64
  have HS3 := Lib.hid hs3
  have HB3 := Lib.hid (HB2.out.trans hb3)
  have hbs3 : w.heap.size ≤ w3.heap.size := HB3.out.size
  clear hs3 hb3
  go_wp2_with fail
  refine (slit_commit s g b pm 1 121 ⟨#[97]⟩ [⟨⟨#[97]⟩, w1v, [⟨((0 + 1 : Nat) : Int), dv1, [120], false⟩]⟩] [1] w3 (base := w.heap.size) (by omega) path_a (by decide) (fun f hf => by rw [List.mem_singleton.1 hf]) (by simp) (by simp [mapN]) (by omega) (fun f hf => by rw [List.mem_singleton.1 hf]; exact ⟨by simp [Rising], fun r hr => by rw [List.mem_singleton.1 hr]; simp⟩) HS3.out hbs3 (HG.out.below HB3.out)).mono ?_
  rintro e w4 ⟨v2, dv2, F2, rfl, hf2, hs4, hb4⟩
  have hput2 : putS [⟨⟨#[97]⟩, w1v, [⟨((0 + 1 : Nat) : Int), dv1, [120], false⟩]⟩] ⟨#[97]⟩ v2 ⟨((1 + 1 : Nat) : Int), dv2, [((121 : Nat) : Int)], false⟩ = [⟨⟨#[97]⟩, v2, [⟨((0 + 1 : Nat) : Int), dv1, [120], false⟩, ⟨((1 + 1 : Nat) : Int), dv2, [121], false⟩]⟩] := rfl
  rw [hput2] at hf2
  obtain ⟨w2v, rfl⟩ := forgot_one hf2 (look_rows2 dv1 dv2) (by simp)
  obtain ⟨F2, hF2⟩ : ∃ F2 : List FileS, F2 = [⟨⟨#[97]⟩, w2v, [⟨((0 + 1 : Nat) : Int), dv1, [120], false⟩, ⟨((1 + 1 : Nat) : Int), dv2, [121], false⟩]⟩] := ⟨_, rfl⟩
  have hr1 : readV 2 F2 [1] 1 ⟨#[97]⟩ = ([120], 0) := by rw [hF2]; rfl
  have hr0 : readV 2 F2 [1] 0 ⟨#[97]⟩ = ([], 190) := by rw [hF2]; rfl
  have hmn : mapN F2 = 2 := by rw [hF2]; rfl
  have hri : RiseF (2 : Nat) F2 := by
    rw [hF2]
    intro f hf
    rw [List.mem_singleton.1 hf]
    refine ⟨by simp [Rising], fun r hr => ?_⟩
    rcases List.mem_cons.1 hr with rfl | hr
    · simp
    · rw [List.mem_singleton.1 hr]; simp
  rw [← hF2] at hs4
  have HS4 := Lib.hid hs4
  have HB4 := Lib.hid (HB3.out.trans hb4)
  have hbs4 : w.heap.size ≤ w4.heap.size := HB4.out.size
  have HF2 := Lib.hid hF2
  have HR1 := Lib.hid hr1
  have HR0 := Lib.hid hr0
  have HMN := Lib.hid hmn
  have HRI := Lib.hid hri
  clear hs4 hb4 hf2 hput2 hF2 hr1 hr0 hmn hri
  go_wp2_with fail
  refine (sread_any s g b pm 2 F2 [1] 1 ⟨#[97]⟩ [120] 0 w4 (base := w.heap.size) (by decide) (by decide) (by rw [HMN.out]; omega) HS4.out HR1.out).mono ?_
  rintro e w5 ⟨Ar, cr, rfl, hcv, _, hb5⟩
  have HS5 := Lib.hid (HS4.out.below hb5)
  have HB5 := Lib.hid (below_from HB4.out hb5)
  have HCV := Lib.hid hcv
  clear hb5 hcv
  go_wp2_with fail
  refine (sread_any s g b pm 2 F2 [1] 0 ⟨#[97]⟩ [] 190 w5 (base := w.heap.size) (by decide) (by decide) (by rw [HMN.out]; omega) HS5.out HR0.out).mono ?_
  rintro e w6 ⟨Ar0, cr0, rfl, _, _, hb6⟩
  have HS6 := Lib.hid (HS5.out.below hb6)
  have HB6 := Lib.hid (below_from HB5.out hb6)
  have cv1 : (convert 55 9 (.slice Ar 1 cr)).run Tryz.prog w6 = _ := HCV.out w6 hb6
  have hs1 : ((strOfNums [120]).toList == [120]) = true := by kernel_rfl
  have x0 := (store_cells HS6.out).1
  have hbs6 : w.heap.size ≤ w6.heap.size := HB6.out.size
  clear hb6
  go_wp2_with fail
  refine (states_any g b 2 F2 w6 (by rw [HMN.out]; omega) HS6.out.tree).mono ?_
  rw [HMN.out]
  rintro e w7 ⟨rfl, hb7⟩
  have HS7 := Lib.hid (HS6.out.below hb7)
  have HB7 := Lib.hid (below_from HB6.out hb7)
  have hbs7 : w.heap.size ≤ w7.heap.size := HB7.out.size
  clear hb7 x0 cv1
  go_wp2_with fail
  refine (unpin_any s g b pm 2 F2 [1] 1 w7 (base := w.heap.size) (by decide) (by simp) (by rw [HMN.out]; omega) (by omega) HRI.out hbs7 HS7.out).mono ?_
  rintro e w8 (⟨hno, _⟩ | ⟨_, F3, rfl, _, hfo, _, hs8, hb8, _⟩)
  · exact absurd (by simp) hno
  have hfo3 : Forgot ((1 + 1 : Nat) : Int) [] F2 F3 := hfo (by simp)
  rw [HF2.out] at hfo3
  obtain ⟨w3v, rfl⟩ := forgot_one hfo3 (look_rows3 dv1 dv2) (by simp)
  have HS8 := Lib.hid hs8
  have HB8 := Lib.hid (HB7.out.trans hb8)
  have x0 := (store_cells hs8).1
  clear hs8 hb8 hfo hfo3
  go_wp2_with fail
  refine (states_any g b 2 _ w8 (by simp [mapN]) HS8.out.tree).mono ?_
  have hm1 : ∀ (u : Value) (r : SRow), mapN [⟨⟨#[97]⟩, u, [r]⟩] = 1 := fun _ _ => rfl
  rw [hm1]
  rintro e w9 ⟨rfl, hb9⟩
  have HB9 := Lib.hid (below_from HB8.out hb9)
  clear hb9 hm1
  go_wp2_with fail
  go_ret
  exact ⟨rfl, HB9.out⟩
end Go.Proofs.YtlidenehfmlebaaGreatDoor
