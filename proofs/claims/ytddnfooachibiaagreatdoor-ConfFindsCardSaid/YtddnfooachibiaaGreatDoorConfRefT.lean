/-
  The reference's set (printed by wip/tools/gen_rset.py).
-/
import Derived.Test.YtddnfooachibiaaGreatDoorConfRefU
import Derived.Test.YtddnfooachibiaaGreatDoorConfSet
set_option linter.unusedVariables false
set_option linter.unusedSimpArgs false
namespace Go.Proofs.YtddnfooachibiaaGreatDoor
open Go.RowKit Go.Maps Go.WideMaps Go.WideAt
theorem strs_len (l : List ByteArray) : (strs l).length = l.length * 1 := by simp [strs]
/-- A row that stays while a block is written. -/
theorem row_keep {α : Type} {w W2 w3 Wf : World} {v0 v : Value} {n0 n : Nat} {xs0 xs : List Value} {l0 l : α} {b : Nat} (h0 : RowIn w v0 n0 xs0) (h3 : RowIn w3 v n xs) (hnew : RowNew W2 v0 l0 v l) (he : l = l0 → n = n0 ∧ xs = xs0) (hb : b < W2.heap.size) (hf : FrB (fun k => k = b) w3 Wf) (hw : Below w.heap.size w Wf) : RowIn Wf v n xs := by
  rcases hnew with ⟨rfl, h⟩ | h
  · obtain ⟨rfl, rfl⟩ := he h
    exact h0.below hw
  · exact h3.fr hf (fun k hk e => by have := h k hk; omega)
theorem new_up {α : Type} {w W2 : World} {v0 v : Value} {l0 l : α} (h : RowNew W2 v0 l0 v l) (hs : w.heap.size ≤ W2.heap.size) : RowNew w v0 l0 v l := by
  rcases h with h | h
  · exact .inl h
  · exact .inr (fun b hb => Nat.le_trans hs (h b hb))
theorem strs_snoc (l : List ByteArray) (k : ByteArray) : strs (l ++ [k]) = strs l ++ [.string k] := by simp [strs]
set_option maxRecDepth 100000 in
set_option maxHeartbeats 4000000 in
/-- user. -/
theorem rset_user (r : RMRow) (k v : ByteArray) (w : World) (hv : v.size ≤ 8192) (hsn : r.seen.length ≤ 9000) (hn : r.md.us.length ≤ 8) (hu : UsersIn w r.uv r.md.us) (hs : SeenIn w r.sv r.seen) (hk : k = kUser) :
    Calls Tryz.prog 33 #[r.val, .string k, .string v] w (RSetPost r (setC r.md r.seen k v) w) := by
  obtain ⟨⟨nm, rt, wb, sl, qu, us⟩, uv, sv, seen⟩ := r
  simp only at hu hs hn hsn ⊢
  obtain ⟨Au, cu, huv, hcu⟩ := RowIn.slice hu
  obtain ⟨As, cs, hsv, hcs⟩ := RowIn.slice hs
  subst huv hsv
  have hb1 := below_one w (.cells #[.string nm, .string rt, .bool wb, .int .i64 sl, .int .i64 qu, .slice Au us.length cu, .slice As seen.length cs] 45)
  have hn1 := heap_alloc_new w (.cells #[.string nm, .string rt, .bool wb, .int .i64 sl, .int .i64 qu, .slice Au us.length cu, .slice As seen.length cs] 45)
  have hz1 : (w.alloc (.cells #[.string nm, .string rt, .bool wb, .int .i64 sl, .int .i64 qu, .slice Au us.length cu, .slice As seen.length cs] 45)).heap.size = w.heap.size + 1 := by simp
  have hb2 := below_one (w.alloc (.cells #[.string nm, .string rt, .bool wb, .int .i64 sl, .int .i64 qu, .slice Au us.length cu, .slice As seen.length cs] 45)) zR7
  have hn2 := heap_alloc_new (w.alloc (.cells #[.string nm, .string rt, .bool wb, .int .i64 sl, .int .i64 qu, .slice Au us.length cu, .slice As seen.length cs] 45)) zR7
  have hz2 : ((w.alloc (.cells #[.string nm, .string rt, .bool wb, .int .i64 sl, .int .i64 qu, .slice Au us.length cu, .slice As seen.length cs] 45)).alloc zR7).heap.size = w.heap.size + 2 := by simp
  rw [hz1] at hn2
  have hn12 := block_below hn1 hb2
  have hbb := below_from hb1 hb2
  unfold zR7 at hn2 hn12 hbb hz2
  clear hb1 hn1 hz1 hb2
  show Calls Tryz.prog 33 #[.agg #[.string nm, .string rt, .bool wb, .int .i64 sl, .int .i64 qu, .slice Au us.length cu, .slice As seen.length cs], .string k, .string v] w _
  generalize hW2 : (w.alloc (.cells #[.string nm, .string rt, .bool wb, .int .i64 sl, .int .i64 qu, .slice Au us.length cu, .slice As seen.length cs] 45)).alloc (.cells #[.string ⟨#[]⟩, .string ⟨#[]⟩, .bool false, .int .i64 0, .int .i64 0, .slice none 0 0, .slice none 0 0] 45) = W2 at hn2 hn12 hbb hz2
  have HU := Lib.hid (RowIn.below hu hbb)
  have HS := Lib.hid (RowIn.below hs hbb)
  have HU0 := Lib.hid hu
  have HS0 := Lib.hid hs
  have HBB := Lib.hid hbb
  have HN1 := Lib.hid hn12
  have HN2 := Lib.hid hn2
  obtain ⟨⟨x0, x1, x2, x3, x4, x5, x6⟩, _⟩ := cells_seven hn12
  obtain ⟨⟨y0, y1, y2, y3, y4, y5, y6⟩, ⟨f0, f1, f2, f3, f4, f5, f6⟩⟩ := cells_seven hn2
  have bu := txt_eq (l := [117, 115, 101, 114]) hk
  have HUS := Lib.hid (ruser_any ⟨⟨nm, rt, wb, sl, qu, us⟩, .slice Au us.length cu, .slice As seen.length cs, seen⟩ v W2 hv hn (RowIn.below hu hbb) (RowIn.below hs hbb))
  have HE : Hid (setC ⟨nm, rt, wb, sl, qu, us⟩ seen k v = (userC ⟨nm, rt, wb, sl, qu, us⟩ v).map fun m => (m, seen)) := Lib.hid (by rw [setC, if_pos hk])
  clear hk
  clear hu hs hbb hn12 hn2
  go_enter Tryz.func33, Tryz.ntmps33
  go_wp2_with fail
  try rw [hW2]
  refine HUS.out.mono ?_
  rintro e w3 ⟨hb3, ⟨⟨nm', rt', wb', sl', qu', us'⟩, uv', sv', seen'⟩, x, rfl, hu3, hs3, ⟨hnu, hns⟩, hx⟩
  simp only at hu3 hs3 hx hnu hns
  obtain ⟨A3, c3, huv3, _⟩ := RowIn.slice hu3
  obtain ⟨A4, c4, hsv3, _⟩ := RowIn.slice hs3
  subst huv3 hsv3
  have hn2' := block_below HN2.out hb3
  have HRE := Lib.hid (ret_seven (w := w) (b := w.heap.size + 1) (Nat.le_succ _) (below_from HBB.out hb3) hn2' nm' rt' wb' sl' qu' (.slice A3 us'.length c3) (.slice A4 seen'.length c4))
  have HU3 := Lib.hid hu3
  have HS3 := Lib.hid hs3
  have HX := Lib.hid hx
  have HNU := Lib.hid hnu
  have HNS := Lib.hid hns
  obtain ⟨⟨y0', y1', y2', y3', y4', y5', y6'⟩, ⟨f0', f1', f2', f3', f4', f5', f6'⟩⟩ := cells_seven hn2'
  simp only [RMRow.val]
  clear hb3 hu3 hs3 hx hnu hns x0 x1 x2 x3 x4 x5 x6 y0 y1 y2 y3 y4 y5 y6 f0 f1 f2 f3 f4 f5 f6
  go_wp2_with fail
  refine bodyPost_ret (res_cell_tmp rfl _ _ _ rfl HRE.out.1) rfl ⟨HRE.out.2.1, ⟨⟨nm', rt', wb', sl', qu', us'⟩, .slice A3 us'.length c3, .slice A4 seen'.length c4, seen'⟩, x, rfl, ?_, ?_, ⟨new_up HNU.out HBB.out.size, new_up HNS.out HBB.out.size⟩, ?_⟩
  · exact row_keep HU0.out HU3.out HNU.out (fun h => by subst h; exact ⟨rfl, rfl⟩) (by omega) HRE.out.2.2 HRE.out.2.1
  · exact row_keep HS0.out HS3.out HNS.out (fun h => by subst h; exact ⟨rfl, rfl⟩) (by omega) HRE.out.2.2 HRE.out.2.1
  · rw [HE.out]
    exact HX.out
set_option maxRecDepth 100000 in
set_option maxHeartbeats 4000000 in
/-- A key that was. -/
theorem rset_seen (r : RMRow) (k v : ByteArray) (w : World) (hv : v.size ≤ 8192) (hsn : r.seen.length ≤ 9000) (hn : r.md.us.length ≤ 8) (hu : UsersIn w r.uv r.md.us) (hs : SeenIn w r.sv r.seen) (hk : k ≠ kUser) (hh : hasC r.seen k = true) :
    Calls Tryz.prog 33 #[r.val, .string k, .string v] w (RSetPost r (setC r.md r.seen k v) w) := by
  obtain ⟨⟨nm, rt, wb, sl, qu, us⟩, uv, sv, seen⟩ := r
  simp only at hu hs hn hsn hh ⊢
  obtain ⟨Au, cu, huv, hcu⟩ := RowIn.slice hu
  obtain ⟨As, cs, hsv, hcs⟩ := RowIn.slice hs
  subst huv hsv
  have hb1 := below_one w (.cells #[.string nm, .string rt, .bool wb, .int .i64 sl, .int .i64 qu, .slice Au us.length cu, .slice As seen.length cs] 45)
  have hn1 := heap_alloc_new w (.cells #[.string nm, .string rt, .bool wb, .int .i64 sl, .int .i64 qu, .slice Au us.length cu, .slice As seen.length cs] 45)
  have hz1 : (w.alloc (.cells #[.string nm, .string rt, .bool wb, .int .i64 sl, .int .i64 qu, .slice Au us.length cu, .slice As seen.length cs] 45)).heap.size = w.heap.size + 1 := by simp
  have hb2 := below_one (w.alloc (.cells #[.string nm, .string rt, .bool wb, .int .i64 sl, .int .i64 qu, .slice Au us.length cu, .slice As seen.length cs] 45)) zR7
  have hn2 := heap_alloc_new (w.alloc (.cells #[.string nm, .string rt, .bool wb, .int .i64 sl, .int .i64 qu, .slice Au us.length cu, .slice As seen.length cs] 45)) zR7
  have hz2 : ((w.alloc (.cells #[.string nm, .string rt, .bool wb, .int .i64 sl, .int .i64 qu, .slice Au us.length cu, .slice As seen.length cs] 45)).alloc zR7).heap.size = w.heap.size + 2 := by simp
  rw [hz1] at hn2
  have hn12 := block_below hn1 hb2
  have hbb := below_from hb1 hb2
  unfold zR7 at hn2 hn12 hbb hz2
  clear hb1 hn1 hz1 hb2
  show Calls Tryz.prog 33 #[.agg #[.string nm, .string rt, .bool wb, .int .i64 sl, .int .i64 qu, .slice Au us.length cu, .slice As seen.length cs], .string k, .string v] w _
  generalize hW2 : (w.alloc (.cells #[.string nm, .string rt, .bool wb, .int .i64 sl, .int .i64 qu, .slice Au us.length cu, .slice As seen.length cs] 45)).alloc (.cells #[.string ⟨#[]⟩, .string ⟨#[]⟩, .bool false, .int .i64 0, .int .i64 0, .slice none 0 0, .slice none 0 0] 45) = W2 at hn2 hn12 hbb hz2
  have HU := Lib.hid (RowIn.below hu hbb)
  have HS := Lib.hid (RowIn.below hs hbb)
  have HU0 := Lib.hid hu
  have HS0 := Lib.hid hs
  have HBB := Lib.hid hbb
  have HN1 := Lib.hid hn12
  have HN2 := Lib.hid hn2
  obtain ⟨⟨x0, x1, x2, x3, x4, x5, x6⟩, _⟩ := cells_seven hn12
  obtain ⟨⟨y0, y1, y2, y3, y4, y5, y6⟩, ⟨f0, f1, f2, f3, f4, f5, f6⟩⟩ := cells_seven hn2
  have bu := txt_ne (l := [117, 115, 101, 114]) hk
  have hTR : TextRow W2 As seen := by
    obtain ⟨A, c, e, _, ht⟩ := textRow_seen (v := .slice As seen.length cs) HS.out
    injection e with e
    exact e ▸ ht
  have HAS := Lib.hid (rhas_any As cs seen k W2 (by omega) hTR)
  have HR := Lib.hid (setC_seen (m := ⟨nm, rt, wb, sl, qu, us⟩) (v := v) hk hh)
  have HRE := Lib.hid (ret_seven (w := w) (b := w.heap.size + 1) (Nat.le_succ _) hbb hn2 nm rt wb sl qu (.slice Au us.length cu) (.slice As seen.length cs))
  clear hk hTR
  clear hu hs hbb hn12 hn2
  go_enter Tryz.func33, Tryz.ntmps33
  go_wp2_with fail
  try rw [hW2]
  refine HAS.out.mono ?_
  rw [hh]
  rintro e w3 ⟨rfl, h3⟩
  replace h3 := h3.symm
  subst h3
  clear hh
  go_wp2_with fail
  exact bodyPost_ret (res_cell_tmp rfl _ _ _ rfl HRE.out.1) rfl ⟨HRE.out.2.1, ⟨⟨nm, rt, wb, sl, qu, us⟩, .slice Au us.length cu, .slice As seen.length cs, seen⟩, 5, rfl, RowIn.below HU0.out HRE.out.2.1, RowIn.below HS0.out HRE.out.2.1, ⟨.inl ⟨rfl, rfl⟩, .inl ⟨rfl, rfl⟩⟩, .inl ⟨5, HR.out, by decide, rfl⟩⟩
set_option maxRecDepth 100000 in
set_option maxHeartbeats 4000000 in
/-- A key that was not yet. -/
theorem rset_put (r : RMRow) (k v : ByteArray) (w : World) (hv : v.size ≤ 8192) (hsn : r.seen.length ≤ 9000) (hn : r.md.us.length ≤ 8) (hu : UsersIn w r.uv r.md.us) (hs : SeenIn w r.sv r.seen) (hk : k ≠ kUser) (hh : hasC r.seen k = false) :
    Calls Tryz.prog 33 #[r.val, .string k, .string v] w (RSetPost r (setC r.md r.seen k v) w) := by
  obtain ⟨⟨nm, rt, wb, sl, qu, us⟩, uv, sv, seen⟩ := r
  simp only at hu hs hn hsn hh ⊢
  obtain ⟨Au, cu, huv, hcu⟩ := RowIn.slice hu
  obtain ⟨As, cs, hsv, hcs⟩ := RowIn.slice hs
  subst huv hsv
  have hb1 := below_one w (.cells #[.string nm, .string rt, .bool wb, .int .i64 sl, .int .i64 qu, .slice Au us.length cu, .slice As seen.length cs] 45)
  have hn1 := heap_alloc_new w (.cells #[.string nm, .string rt, .bool wb, .int .i64 sl, .int .i64 qu, .slice Au us.length cu, .slice As seen.length cs] 45)
  have hz1 : (w.alloc (.cells #[.string nm, .string rt, .bool wb, .int .i64 sl, .int .i64 qu, .slice Au us.length cu, .slice As seen.length cs] 45)).heap.size = w.heap.size + 1 := by simp
  have hb2 := below_one (w.alloc (.cells #[.string nm, .string rt, .bool wb, .int .i64 sl, .int .i64 qu, .slice Au us.length cu, .slice As seen.length cs] 45)) zR7
  have hn2 := heap_alloc_new (w.alloc (.cells #[.string nm, .string rt, .bool wb, .int .i64 sl, .int .i64 qu, .slice Au us.length cu, .slice As seen.length cs] 45)) zR7
  have hz2 : ((w.alloc (.cells #[.string nm, .string rt, .bool wb, .int .i64 sl, .int .i64 qu, .slice Au us.length cu, .slice As seen.length cs] 45)).alloc zR7).heap.size = w.heap.size + 2 := by simp
  rw [hz1] at hn2
  have hn12 := block_below hn1 hb2
  have hbb := below_from hb1 hb2
  unfold zR7 at hn2 hn12 hbb hz2
  clear hb1 hn1 hz1 hb2
  show Calls Tryz.prog 33 #[.agg #[.string nm, .string rt, .bool wb, .int .i64 sl, .int .i64 qu, .slice Au us.length cu, .slice As seen.length cs], .string k, .string v] w _
  generalize hW2 : (w.alloc (.cells #[.string nm, .string rt, .bool wb, .int .i64 sl, .int .i64 qu, .slice Au us.length cu, .slice As seen.length cs] 45)).alloc (.cells #[.string ⟨#[]⟩, .string ⟨#[]⟩, .bool false, .int .i64 0, .int .i64 0, .slice none 0 0, .slice none 0 0] 45) = W2 at hn2 hn12 hbb hz2
  have HU := Lib.hid (RowIn.below hu hbb)
  have HS := Lib.hid (RowIn.below hs hbb)
  have HU0 := Lib.hid hu
  have HS0 := Lib.hid hs
  have HBB := Lib.hid hbb
  have HN1 := Lib.hid hn12
  have HN2 := Lib.hid hn2
  obtain ⟨⟨x0, x1, x2, x3, x4, x5, x6⟩, _⟩ := cells_seven hn12
  obtain ⟨⟨y0, y1, y2, y3, y4, y5, y6⟩, ⟨f0, f1, f2, f3, f4, f5, f6⟩⟩ := cells_seven hn2
  have bu := txt_ne (l := [117, 115, 101, 114]) hk
  have hTR : TextRow W2 As seen := by
    obtain ⟨A, c, e, _, ht⟩ := textRow_seen (v := .slice As seen.length cs) HS.out
    injection e with e
    exact e ▸ ht
  have hhh := hh
  have HAS := Lib.hid (rhas_any As cs seen k W2 (by omega) hTR)
  have x6' := cell_below (below_one W2 (.cells #[] 9)) x6
  obtain ⟨j0, hj0, hjz0, hjz1, hjz2⟩ := info_parts infoTxt
  have HNUM := Lib.hid (fun W => rnumber_any v W (by omega))
  have HPC := Lib.hid (fun W => Go.Proofs.YtddnfooachibiaaGreatDoor.rcheck_any v W (by omega))
  have hW2s := HBB.out.size
  clear hTR
  clear hu hs hbb hn12 hn2
  go_enter Tryz.func33, Tryz.ntmps33
  go_wp2_with fail
  try rw [hW2]
  refine HAS.out.mono ?_
  rw [hh]
  rintro e w3 ⟨rfl, h3⟩
  replace h3 := h3.symm
  subst h3
  clear hh
  go_upto_region 7 with (first | (at_builtin; refine wpList_clone_row rfl (.tmp 24) (.tmp 26) 43 rfl 9 j0 (.string ⟨#[]⟩) 1 16 Tryz.underlying43 hj0 hjz0 hjz1 hjz2 rfl (by decide) (.slice As seen.length cs) seen.length (strs seen) (by simp [Act.eval, Act.put]) (by simp [Act.eval, Act.put]) HS.out (strs_len seen) (strs_one seen) (by unfold maxLen; omega) (by omega) ?_; intro v5 w5 hown5 hb5; have HB5 := Lib.hid hb5; have hb6 := below_one w5 (.cells #[.string k] 9); have HB6 := Lib.hid (below_from hb5 hb6); have HO6 := Lib.hid (own_stay hown5 hb6); have HSZ := Lib.hid HB6.out.size; have HM6 := Lib.hid (block_below HN1.out HB6.out); have HR6 := Lib.hid (block_below HN2.out HB6.out); have HSRC := Lib.hid (cell_one_new w5 (.string k) 9); clear hown5 hb5 hb6) | (at_builtin; go_loud (refine wpList_append_own _ rfl (.tmp 28) (.tmp 30) 43 rfl W2.heap.size 9 j0 (.string ⟨#[]⟩) 1 16 Tryz.underlying43 hj0 hjz0 hjz1 hjz2 rfl (by decide) v5 seen.length (strs seen) (by simp [Act.eval, Act.put]) HO6.out ⟨w5.heap.size, 0, none⟩ 1 1 [.string k] (by simp [Act.eval, Act.put]) rfl HSRC.out (fun u hu => by (simp at hu; subst hu; rfl)) (by unfold maxLen; omega) (by omega) HSZ.out ?_; intro v7 w7 hown7 hg7 _; obtain ⟨A7, c7, rfl⟩ := own_slice hown7; have hm7 := (OffRow.of HO6.out).block HM6.out (by decide) hg7; have hr7 := (OffRow.of HO6.out).block HR6.out (by decide) hg7; have hb7 := HB6.out.grown hg7 HSZ.out (fun j hj => (HO6.out.lt j hj).1); have HM7 := Lib.hid hm7; have HR7 := Lib.hid hr7; have HB7 := Lib.hid (below_from HBB.out hb7); have HO7 := Lib.hid hown7; have q6 := (cells_seven hm7).1.2.2.2.2.2.2; have g6 := (cells_seven hm7).2.2.2.2.2.2.2; clear hown7 hg7 hm7 hr7 hb7)))
  have hfa : FrB (fun k => k = w.heap.size) w7 (w7.setCell ⟨w.heap.size, 6, none⟩ (.slice A7 (seen.length + 1) c7)) := FrB.set _ rfl
  have hm8 : (w7.setCell ⟨w.heap.size, 6, none⟩ (.slice A7 (seen.length + 1) c7)).heap[w.heap.size]? = some (Obj.cells #[.string nm, .string rt, .bool wb, .int .i64 sl, .int .i64 qu, .slice Au us.length cu, .slice A7 (seen.length + 1) c7] 45 (0, 0)) := by rw [heap_setCell_same w7 w.heap.size 6 _ _ _ HM7.out]; rfl
  have hr8 := hfa.at_ HR7.out (by omega)
  have ho8 := hfa.own HO7.out (fun b hb e => by have := (HO7.out.lt b hb).1; omega)
  have hb8 : Below w.heap.size w (w7.setCell ⟨w.heap.size, 6, none⟩ (.slice A7 (seen.length + 1) c7)) := HB7.out.setCell (p := ⟨w.heap.size, 6, none⟩) (Nat.le_refl _) _
  generalize w7.setCell ⟨w.heap.size, 6, none⟩ (.slice A7 (seen.length + 1) c7) = w8 at *
  have HM8 := Lib.hid hm8
  have HR8 := Lib.hid hr8
  have HO8 := Lib.hid ho8
  have HB8 := Lib.hid hb8
  have HNS : Hid (∀ b, (Value.slice A7 (seen.length + 1) c7).ownBlock = some b → w.heap.size ≤ b) := Lib.hid (fun b hb => by have := (ho8.lt b hb).1; omega)
  clear hfa hm8 hr8 ho8 hb8 q6 g6 x0 x1 x2 x3 x4 x5 x6 x6' y0 y1 y2 y3 y4 y5 y6 f0 f1 f2 f3 f4 f5 f6
  have HSB : Hid (∀ x, putC ⟨nm, rt, wb, sl, qu, us⟩ k v = .error x → setC ⟨nm, rt, wb, sl, qu, us⟩ seen k v = .error x) := Lib.hid (fun x h => setC_bad hk hhh h)
  have HSO : Hid (∀ m', putC ⟨nm, rt, wb, sl, qu, us⟩ k v = .ok m' → setC ⟨nm, rt, wb, sl, qu, us⟩ seen k v = .ok (m', seen ++ [k])) := Lib.hid (fun m' h => setC_ok hk hhh h)
  clear hk hhh
  go_wp2_with fail
  refine (HNUM.out _).mono ?_
  rintro e w9 ⟨rfl, h9⟩
  replace h9 := h9.symm
  subst h9
  by_cases hr : k = kRoot
  · have br := txt_eq (l := [114, 111, 111, 116]) hr
    have HPR : Hid (putC ⟨nm, rt, wb, sl, qu, us⟩ k v = if (checkB v).isSome then .error 90 else .ok ⟨nm, v, wb, sl, qu, us⟩) := Lib.hid (by rw [putC, if_pos hr])
    clear hr
    cases hcb : checkB v with
    | some p =>
      have HR := Lib.hid (HSB.out 90 (HPR.out.trans (by rw [hcb]; rfl)))
      go_wp2_with fail
      refine (HPC.out _).mono ?_
      rw [hcb]
      rintro e w9 ⟨rfl, h9⟩
      replace h9 := h9.symm
      subst h9
      simp only [refRes]
      clear hcb
      have HRE := Lib.hid (ret_seven (w := w) (b := w.heap.size + 1) (Nat.le_succ _) HB8.out HR8.out nm rt wb sl qu (.slice Au us.length cu) (.slice A7 (seen.length + 1) c7))
      obtain ⟨⟨x0, x1, x2, x3, x4, x5, x6⟩, _⟩ := cells_seven HM8.out
      obtain ⟨⟨y0, y1, y2, y3, y4, y5, y6⟩, ⟨f0, f1, f2, f3, f4, f5, f6⟩⟩ := cells_seven HR8.out
      go_wp2_with fail
      exact bodyPost_ret (res_cell_tmp rfl _ _ _ rfl HRE.out.1) rfl ⟨HRE.out.2.1, ⟨⟨nm, rt, wb, sl, qu, us⟩, .slice Au us.length cu, .slice A7 (seen.length + 1) c7, seen ++ [k]⟩, 90, rfl, RowIn.below HU0.out HRE.out.2.1, (by
        show RowIn _ _ (seen ++ [k]).length (strs (seen ++ [k]))
        rw [strs_snoc, List.length_append, List.length_singleton]
        exact RowIn.of_own (HRE.out.2.2.own HO8.out (fun b hb e => by have := (HO8.out.lt b hb).1; omega)) (by decide)), ⟨.inl ⟨rfl, rfl⟩, .inr (fun b hb => HNS.out b hb)⟩, .inl ⟨90, HR.out, by decide, rfl⟩⟩
    | none =>
      have HR := Lib.hid (HSO.out _ (HPR.out.trans (by rw [hcb]; rfl)))
      go_wp2_with fail
      refine (HPC.out _).mono ?_
      rw [hcb]
      rintro e w9 ⟨rfl, h9⟩
      replace h9 := h9.symm
      subst h9
      simp only [refRes]
      clear hcb
      have hfb : FrB (fun k => k = w.heap.size) w8 (w8.setCell ⟨w.heap.size, 1, none⟩ (.string v)) := FrB.set _ rfl
      have hm9 : (w8.setCell ⟨w.heap.size, 1, none⟩ (.string v)).heap[w.heap.size]? = some (Obj.cells #[.string nm, .string v, .bool wb, .int .i64 sl, .int .i64 qu, .slice Au us.length cu, .slice A7 (seen.length + 1) c7] 45 (0, 0)) := by rw [heap_setCell_same w8 w.heap.size 1 _ _ _ HM8.out]; rfl
      have hr9 := hfb.at_ HR8.out (by omega)
      have HO9 := Lib.hid (hfb.own HO8.out (fun b hb e => by have := (HO8.out.lt b hb).1; omega))
      have hb9 : Below w.heap.size w (w8.setCell ⟨w.heap.size, 1, none⟩ (.string v)) := HB8.out.setCell (p := ⟨w.heap.size, 1, none⟩) (Nat.le_refl _) _
      have HRE := Lib.hid (ret_seven (w := w) (b := w.heap.size + 1) (Nat.le_succ _) hb9 hr9 nm v wb sl qu (.slice Au us.length cu) (.slice A7 (seen.length + 1) c7))
      obtain ⟨⟨v0, v1, v2, v3, v4, v5, v6⟩, ⟨g0, g1, g2, g3, g4, g5, g6⟩⟩ := cells_seven HM8.out
      obtain ⟨⟨x0, x1, x2, x3, x4, x5, x6⟩, _⟩ := cells_seven hm9
      obtain ⟨⟨y0, y1, y2, y3, y4, y5, y6⟩, ⟨f0, f1, f2, f3, f4, f5, f6⟩⟩ := cells_seven hr9
      clear hfb hm9 hr9 hb9
      go_wp2_with fail
      exact bodyPost_ret (res_cell_tmp rfl _ _ _ rfl HRE.out.1) rfl ⟨HRE.out.2.1, ⟨⟨nm, v, wb, sl, qu, us⟩, .slice Au us.length cu, .slice A7 (seen.length + 1) c7, seen ++ [k]⟩, 0, rfl, RowIn.below HU0.out HRE.out.2.1, (by
        show RowIn _ _ (seen ++ [k]).length (strs (seen ++ [k]))
        rw [strs_snoc, List.length_append, List.length_singleton]
        exact RowIn.of_own (HRE.out.2.2.own HO9.out (fun b hb e => by have := (HO9.out.lt b hb).1; omega)) (by decide)), ⟨.inl ⟨rfl, rfl⟩, .inr (fun b hb => HNS.out b hb)⟩, .inr ⟨HR.out, rfl⟩⟩
  · have br := txt_ne (l := [114, 111, 111, 116]) hr
    by_cases hw : k = kWrite
    · have bw := txt_eq (l := [119, 114, 105, 116, 101]) hw
      have HPR : Hid (putC ⟨nm, rt, wb, sl, qu, us⟩ k v = if v = vYes ∨ v = vTrue then .ok ⟨nm, rt, true, sl, qu, us⟩ else if v = vNo ∨ v = vFalse then .ok ⟨nm, rt, wb, sl, qu, us⟩ else .error 130) := Lib.hid (by rw [putC, if_neg hr, if_pos hw])
      clear hr hw
      by_cases e1 : v = vYes
      · have b1 := txt_eq (l := [121, 101, 115]) e1
        have HR := Lib.hid (HSO.out _ (HPR.out.trans (if_pos (.inl e1))))
        clear e1
        have hfb : FrB (fun k => k = w.heap.size) w8 (w8.setCell ⟨w.heap.size, 2, none⟩ (.bool true)) := FrB.set _ rfl
        have hm9 : (w8.setCell ⟨w.heap.size, 2, none⟩ (.bool true)).heap[w.heap.size]? = some (Obj.cells #[.string nm, .string rt, .bool true, .int .i64 sl, .int .i64 qu, .slice Au us.length cu, .slice A7 (seen.length + 1) c7] 45 (0, 0)) := by rw [heap_setCell_same w8 w.heap.size 2 _ _ _ HM8.out]; rfl
        have hr9 := hfb.at_ HR8.out (by omega)
        have HO9 := Lib.hid (hfb.own HO8.out (fun b hb e => by have := (HO8.out.lt b hb).1; omega))
        have hb9 : Below w.heap.size w (w8.setCell ⟨w.heap.size, 2, none⟩ (.bool true)) := HB8.out.setCell (p := ⟨w.heap.size, 2, none⟩) (Nat.le_refl _) _
        have HRE := Lib.hid (ret_seven (w := w) (b := w.heap.size + 1) (Nat.le_succ _) hb9 hr9 nm rt true sl qu (.slice Au us.length cu) (.slice A7 (seen.length + 1) c7))
        obtain ⟨⟨v0, v1, v2, v3, v4, v5, v6⟩, ⟨g0, g1, g2, g3, g4, g5, g6⟩⟩ := cells_seven HM8.out
        obtain ⟨⟨x0, x1, x2, x3, x4, x5, x6⟩, _⟩ := cells_seven hm9
        obtain ⟨⟨y0, y1, y2, y3, y4, y5, y6⟩, ⟨f0, f1, f2, f3, f4, f5, f6⟩⟩ := cells_seven hr9
        clear hfb hm9 hr9 hb9
        go_wp2_with fail
        exact bodyPost_ret (res_cell_tmp rfl _ _ _ rfl HRE.out.1) rfl ⟨HRE.out.2.1, ⟨⟨nm, rt, true, sl, qu, us⟩, .slice Au us.length cu, .slice A7 (seen.length + 1) c7, seen ++ [k]⟩, 0, rfl, RowIn.below HU0.out HRE.out.2.1, (by
          show RowIn _ _ (seen ++ [k]).length (strs (seen ++ [k]))
          rw [strs_snoc, List.length_append, List.length_singleton]
          exact RowIn.of_own (HRE.out.2.2.own HO9.out (fun b hb e => by have := (HO9.out.lt b hb).1; omega)) (by decide)), ⟨.inl ⟨rfl, rfl⟩, .inr (fun b hb => HNS.out b hb)⟩, .inr ⟨HR.out, rfl⟩⟩
      · have b1 := txt_ne (l := [121, 101, 115]) e1
        by_cases e2 : v = vTrue
        · have b2 := txt_eq (l := [116, 114, 117, 101]) e2
          have HR := Lib.hid (HSO.out _ (HPR.out.trans (if_pos (.inr e2))))
          clear e1 e2
          have hfb : FrB (fun k => k = w.heap.size) w8 (w8.setCell ⟨w.heap.size, 2, none⟩ (.bool true)) := FrB.set _ rfl
          have hm9 : (w8.setCell ⟨w.heap.size, 2, none⟩ (.bool true)).heap[w.heap.size]? = some (Obj.cells #[.string nm, .string rt, .bool true, .int .i64 sl, .int .i64 qu, .slice Au us.length cu, .slice A7 (seen.length + 1) c7] 45 (0, 0)) := by rw [heap_setCell_same w8 w.heap.size 2 _ _ _ HM8.out]; rfl
          have hr9 := hfb.at_ HR8.out (by omega)
          have HO9 := Lib.hid (hfb.own HO8.out (fun b hb e => by have := (HO8.out.lt b hb).1; omega))
          have hb9 : Below w.heap.size w (w8.setCell ⟨w.heap.size, 2, none⟩ (.bool true)) := HB8.out.setCell (p := ⟨w.heap.size, 2, none⟩) (Nat.le_refl _) _
          have HRE := Lib.hid (ret_seven (w := w) (b := w.heap.size + 1) (Nat.le_succ _) hb9 hr9 nm rt true sl qu (.slice Au us.length cu) (.slice A7 (seen.length + 1) c7))
          obtain ⟨⟨v0, v1, v2, v3, v4, v5, v6⟩, ⟨g0, g1, g2, g3, g4, g5, g6⟩⟩ := cells_seven HM8.out
          obtain ⟨⟨x0, x1, x2, x3, x4, x5, x6⟩, _⟩ := cells_seven hm9
          obtain ⟨⟨y0, y1, y2, y3, y4, y5, y6⟩, ⟨f0, f1, f2, f3, f4, f5, f6⟩⟩ := cells_seven hr9
          clear hfb hm9 hr9 hb9
          go_wp2_with fail
          exact bodyPost_ret (res_cell_tmp rfl _ _ _ rfl HRE.out.1) rfl ⟨HRE.out.2.1, ⟨⟨nm, rt, true, sl, qu, us⟩, .slice Au us.length cu, .slice A7 (seen.length + 1) c7, seen ++ [k]⟩, 0, rfl, RowIn.below HU0.out HRE.out.2.1, (by
            show RowIn _ _ (seen ++ [k]).length (strs (seen ++ [k]))
            rw [strs_snoc, List.length_append, List.length_singleton]
            exact RowIn.of_own (HRE.out.2.2.own HO9.out (fun b hb e => by have := (HO9.out.lt b hb).1; omega)) (by decide)), ⟨.inl ⟨rfl, rfl⟩, .inr (fun b hb => HNS.out b hb)⟩, .inr ⟨HR.out, rfl⟩⟩
        · have b2 := txt_ne (l := [116, 114, 117, 101]) e2
          have HP2 := Lib.hid (HPR.out.trans (if_neg (fun h => h.elim e1 e2)))
          by_cases e3 : v = vNo
          · have b3 := txt_eq (l := [110, 111]) e3
            have HR := Lib.hid (HSO.out _ (HP2.out.trans (if_pos (.inl e3))))
            clear e1 e2 e3
            have HRE := Lib.hid (ret_seven (w := w) (b := w.heap.size + 1) (Nat.le_succ _) HB8.out HR8.out nm rt wb sl qu (.slice Au us.length cu) (.slice A7 (seen.length + 1) c7))
            obtain ⟨⟨x0, x1, x2, x3, x4, x5, x6⟩, _⟩ := cells_seven HM8.out
            obtain ⟨⟨y0, y1, y2, y3, y4, y5, y6⟩, ⟨f0, f1, f2, f3, f4, f5, f6⟩⟩ := cells_seven HR8.out
            go_wp2_with fail
            exact bodyPost_ret (res_cell_tmp rfl _ _ _ rfl HRE.out.1) rfl ⟨HRE.out.2.1, ⟨⟨nm, rt, wb, sl, qu, us⟩, .slice Au us.length cu, .slice A7 (seen.length + 1) c7, seen ++ [k]⟩, 0, rfl, RowIn.below HU0.out HRE.out.2.1, (by
              show RowIn _ _ (seen ++ [k]).length (strs (seen ++ [k]))
              rw [strs_snoc, List.length_append, List.length_singleton]
              exact RowIn.of_own (HRE.out.2.2.own HO8.out (fun b hb e => by have := (HO8.out.lt b hb).1; omega)) (by decide)), ⟨.inl ⟨rfl, rfl⟩, .inr (fun b hb => HNS.out b hb)⟩, .inr ⟨HR.out, rfl⟩⟩
          · have b3 := txt_ne (l := [110, 111]) e3
            by_cases e4 : v = vFalse
            · have b4 := txt_eq (l := [102, 97, 108, 115, 101]) e4
              have HR := Lib.hid (HSO.out _ (HP2.out.trans (if_pos (.inr e4))))
              clear e1 e2 e3 e4
              have HRE := Lib.hid (ret_seven (w := w) (b := w.heap.size + 1) (Nat.le_succ _) HB8.out HR8.out nm rt wb sl qu (.slice Au us.length cu) (.slice A7 (seen.length + 1) c7))
              obtain ⟨⟨x0, x1, x2, x3, x4, x5, x6⟩, _⟩ := cells_seven HM8.out
              obtain ⟨⟨y0, y1, y2, y3, y4, y5, y6⟩, ⟨f0, f1, f2, f3, f4, f5, f6⟩⟩ := cells_seven HR8.out
              go_wp2_with fail
              exact bodyPost_ret (res_cell_tmp rfl _ _ _ rfl HRE.out.1) rfl ⟨HRE.out.2.1, ⟨⟨nm, rt, wb, sl, qu, us⟩, .slice Au us.length cu, .slice A7 (seen.length + 1) c7, seen ++ [k]⟩, 0, rfl, RowIn.below HU0.out HRE.out.2.1, (by
                show RowIn _ _ (seen ++ [k]).length (strs (seen ++ [k]))
                rw [strs_snoc, List.length_append, List.length_singleton]
                exact RowIn.of_own (HRE.out.2.2.own HO8.out (fun b hb e => by have := (HO8.out.lt b hb).1; omega)) (by decide)), ⟨.inl ⟨rfl, rfl⟩, .inr (fun b hb => HNS.out b hb)⟩, .inr ⟨HR.out, rfl⟩⟩
            · have b4 := txt_ne (l := [102, 97, 108, 115, 101]) e4
              have HR := Lib.hid (HSB.out 130 (HP2.out.trans (if_neg (fun h => h.elim e3 e4))))
              clear e1 e2 e3 e4
              have HRE := Lib.hid (ret_seven (w := w) (b := w.heap.size + 1) (Nat.le_succ _) HB8.out HR8.out nm rt wb sl qu (.slice Au us.length cu) (.slice A7 (seen.length + 1) c7))
              obtain ⟨⟨x0, x1, x2, x3, x4, x5, x6⟩, _⟩ := cells_seven HM8.out
              obtain ⟨⟨y0, y1, y2, y3, y4, y5, y6⟩, ⟨f0, f1, f2, f3, f4, f5, f6⟩⟩ := cells_seven HR8.out
              go_wp2_with fail
              exact bodyPost_ret (res_cell_tmp rfl _ _ _ rfl HRE.out.1) rfl ⟨HRE.out.2.1, ⟨⟨nm, rt, wb, sl, qu, us⟩, .slice Au us.length cu, .slice A7 (seen.length + 1) c7, seen ++ [k]⟩, 130, rfl, RowIn.below HU0.out HRE.out.2.1, (by
                show RowIn _ _ (seen ++ [k]).length (strs (seen ++ [k]))
                rw [strs_snoc, List.length_append, List.length_singleton]
                exact RowIn.of_own (HRE.out.2.2.own HO8.out (fun b hb e => by have := (HO8.out.lt b hb).1; omega)) (by decide)), ⟨.inl ⟨rfl, rfl⟩, .inr (fun b hb => HNS.out b hb)⟩, .inl ⟨130, HR.out, by decide, rfl⟩⟩
    · have bw := txt_ne (l := [119, 114, 105, 116, 101]) hw
      by_cases hs2 : k = kSlots
      · have bs := txt_eq (l := [115, 108, 111, 116, 115]) hs2
        have HPR : Hid (putC ⟨nm, rt, wb, sl, qu, us⟩ k v = if 1 ≤ numB v ∧ numB v ≤ 16 then .ok ⟨nm, rt, wb, numB v, qu, us⟩ else .error 130) := Lib.hid (by rw [putC, if_neg hr, if_neg hw, if_pos hs2])
        clear hr hw hs2
        obtain ⟨nb, hnb⟩ : ∃ x, x = numB v := ⟨_, rfl⟩
        rw [← hnb] at HPR ⊢
        clear hnb
        by_cases e1 : 1 ≤ nb
        · have d1 : decide ((1 : Int) ≤ nb) = true := decide_eq_true e1
          by_cases e2 : nb ≤ 16
          · have d2 : decide (nb ≤ (16 : Int)) = true := decide_eq_true e2
            have HR := Lib.hid (HSO.out _ (HPR.out.trans (if_pos ⟨e1, e2⟩)))
            clear e1 e2
            have hfb : FrB (fun k => k = w.heap.size) w8 (w8.setCell ⟨w.heap.size, 3, none⟩ (.int .i64 nb)) := FrB.set _ rfl
            have hm9 : (w8.setCell ⟨w.heap.size, 3, none⟩ (.int .i64 nb)).heap[w.heap.size]? = some (Obj.cells #[.string nm, .string rt, .bool wb, .int .i64 nb, .int .i64 qu, .slice Au us.length cu, .slice A7 (seen.length + 1) c7] 45 (0, 0)) := by rw [heap_setCell_same w8 w.heap.size 3 _ _ _ HM8.out]; rfl
            have hr9 := hfb.at_ HR8.out (by omega)
            have HO9 := Lib.hid (hfb.own HO8.out (fun b hb e => by have := (HO8.out.lt b hb).1; omega))
            have hb9 : Below w.heap.size w (w8.setCell ⟨w.heap.size, 3, none⟩ (.int .i64 nb)) := HB8.out.setCell (p := ⟨w.heap.size, 3, none⟩) (Nat.le_refl _) _
            have HRE := Lib.hid (ret_seven (w := w) (b := w.heap.size + 1) (Nat.le_succ _) hb9 hr9 nm rt wb nb qu (.slice Au us.length cu) (.slice A7 (seen.length + 1) c7))
            obtain ⟨⟨v0, v1, v2, v3, v4, v5, v6⟩, ⟨g0, g1, g2, g3, g4, g5, g6⟩⟩ := cells_seven HM8.out
            obtain ⟨⟨x0, x1, x2, x3, x4, x5, x6⟩, _⟩ := cells_seven hm9
            obtain ⟨⟨y0, y1, y2, y3, y4, y5, y6⟩, ⟨f0, f1, f2, f3, f4, f5, f6⟩⟩ := cells_seven hr9
            clear hfb hm9 hr9 hb9
            go_wp2_with fail
            exact bodyPost_ret (res_cell_tmp rfl _ _ _ rfl HRE.out.1) rfl ⟨HRE.out.2.1, ⟨⟨nm, rt, wb, nb, qu, us⟩, .slice Au us.length cu, .slice A7 (seen.length + 1) c7, seen ++ [k]⟩, 0, rfl, RowIn.below HU0.out HRE.out.2.1, (by
              show RowIn _ _ (seen ++ [k]).length (strs (seen ++ [k]))
              rw [strs_snoc, List.length_append, List.length_singleton]
              exact RowIn.of_own (HRE.out.2.2.own HO9.out (fun b hb e => by have := (HO9.out.lt b hb).1; omega)) (by decide)), ⟨.inl ⟨rfl, rfl⟩, .inr (fun b hb => HNS.out b hb)⟩, .inr ⟨HR.out, rfl⟩⟩
          · have d2 : decide (nb ≤ (16 : Int)) = false := decide_eq_false e2
            have HR := Lib.hid (HSB.out 130 (HPR.out.trans (if_neg (fun h => e2 h.2))))
            clear e1 e2
            have HRE := Lib.hid (ret_seven (w := w) (b := w.heap.size + 1) (Nat.le_succ _) HB8.out HR8.out nm rt wb sl qu (.slice Au us.length cu) (.slice A7 (seen.length + 1) c7))
            obtain ⟨⟨x0, x1, x2, x3, x4, x5, x6⟩, _⟩ := cells_seven HM8.out
            obtain ⟨⟨y0, y1, y2, y3, y4, y5, y6⟩, ⟨f0, f1, f2, f3, f4, f5, f6⟩⟩ := cells_seven HR8.out
            go_wp2_with fail
            exact bodyPost_ret (res_cell_tmp rfl _ _ _ rfl HRE.out.1) rfl ⟨HRE.out.2.1, ⟨⟨nm, rt, wb, sl, qu, us⟩, .slice Au us.length cu, .slice A7 (seen.length + 1) c7, seen ++ [k]⟩, 130, rfl, RowIn.below HU0.out HRE.out.2.1, (by
              show RowIn _ _ (seen ++ [k]).length (strs (seen ++ [k]))
              rw [strs_snoc, List.length_append, List.length_singleton]
              exact RowIn.of_own (HRE.out.2.2.own HO8.out (fun b hb e => by have := (HO8.out.lt b hb).1; omega)) (by decide)), ⟨.inl ⟨rfl, rfl⟩, .inr (fun b hb => HNS.out b hb)⟩, .inl ⟨130, HR.out, by decide, rfl⟩⟩
        · have d1 : decide ((1 : Int) ≤ nb) = false := decide_eq_false e1
          have HR := Lib.hid (HSB.out 130 (HPR.out.trans (if_neg (fun h => e1 h.1))))
          clear e1
          have HRE := Lib.hid (ret_seven (w := w) (b := w.heap.size + 1) (Nat.le_succ _) HB8.out HR8.out nm rt wb sl qu (.slice Au us.length cu) (.slice A7 (seen.length + 1) c7))
          obtain ⟨⟨x0, x1, x2, x3, x4, x5, x6⟩, _⟩ := cells_seven HM8.out
          obtain ⟨⟨y0, y1, y2, y3, y4, y5, y6⟩, ⟨f0, f1, f2, f3, f4, f5, f6⟩⟩ := cells_seven HR8.out
          go_wp2_with fail
          exact bodyPost_ret (res_cell_tmp rfl _ _ _ rfl HRE.out.1) rfl ⟨HRE.out.2.1, ⟨⟨nm, rt, wb, sl, qu, us⟩, .slice Au us.length cu, .slice A7 (seen.length + 1) c7, seen ++ [k]⟩, 130, rfl, RowIn.below HU0.out HRE.out.2.1, (by
            show RowIn _ _ (seen ++ [k]).length (strs (seen ++ [k]))
            rw [strs_snoc, List.length_append, List.length_singleton]
            exact RowIn.of_own (HRE.out.2.2.own HO8.out (fun b hb e => by have := (HO8.out.lt b hb).1; omega)) (by decide)), ⟨.inl ⟨rfl, rfl⟩, .inr (fun b hb => HNS.out b hb)⟩, .inl ⟨130, HR.out, by decide, rfl⟩⟩
      · have bs := txt_ne (l := [115, 108, 111, 116, 115]) hs2
        by_cases hq : k = kQuota
        · have bq := txt_eq (l := [113, 117, 111, 116, 97]) hq
          have HPR : Hid (putC ⟨nm, rt, wb, sl, qu, us⟩ k v = if 0 ≤ numB v ∧ numB v ≤ 262144 then .ok ⟨nm, rt, wb, sl, numB v, us⟩ else .error 130) := Lib.hid (by rw [putC, if_neg hr, if_neg hw, if_neg hs2, if_pos hq])
          clear hr hw hs2 hq
          obtain ⟨nb, hnb⟩ : ∃ x, x = numB v := ⟨_, rfl⟩
          rw [← hnb] at HPR ⊢
          clear hnb
          by_cases e1 : 0 ≤ nb
          · have d1 : decide ((0 : Int) ≤ nb) = true := decide_eq_true e1
            by_cases e2 : nb ≤ 262144
            · have d2 : decide (nb ≤ (262144 : Int)) = true := decide_eq_true e2
              have HR := Lib.hid (HSO.out _ (HPR.out.trans (if_pos ⟨e1, e2⟩)))
              clear e1 e2
              have hfb : FrB (fun k => k = w.heap.size) w8 (w8.setCell ⟨w.heap.size, 4, none⟩ (.int .i64 nb)) := FrB.set _ rfl
              have hm9 : (w8.setCell ⟨w.heap.size, 4, none⟩ (.int .i64 nb)).heap[w.heap.size]? = some (Obj.cells #[.string nm, .string rt, .bool wb, .int .i64 sl, .int .i64 nb, .slice Au us.length cu, .slice A7 (seen.length + 1) c7] 45 (0, 0)) := by rw [heap_setCell_same w8 w.heap.size 4 _ _ _ HM8.out]; rfl
              have hr9 := hfb.at_ HR8.out (by omega)
              have HO9 := Lib.hid (hfb.own HO8.out (fun b hb e => by have := (HO8.out.lt b hb).1; omega))
              have hb9 : Below w.heap.size w (w8.setCell ⟨w.heap.size, 4, none⟩ (.int .i64 nb)) := HB8.out.setCell (p := ⟨w.heap.size, 4, none⟩) (Nat.le_refl _) _
              have HRE := Lib.hid (ret_seven (w := w) (b := w.heap.size + 1) (Nat.le_succ _) hb9 hr9 nm rt wb sl nb (.slice Au us.length cu) (.slice A7 (seen.length + 1) c7))
              obtain ⟨⟨v0, v1, v2, v3, v4, v5, v6⟩, ⟨g0, g1, g2, g3, g4, g5, g6⟩⟩ := cells_seven HM8.out
              obtain ⟨⟨x0, x1, x2, x3, x4, x5, x6⟩, _⟩ := cells_seven hm9
              obtain ⟨⟨y0, y1, y2, y3, y4, y5, y6⟩, ⟨f0, f1, f2, f3, f4, f5, f6⟩⟩ := cells_seven hr9
              clear hfb hm9 hr9 hb9
              go_wp2_with fail
              exact bodyPost_ret (res_cell_tmp rfl _ _ _ rfl HRE.out.1) rfl ⟨HRE.out.2.1, ⟨⟨nm, rt, wb, sl, nb, us⟩, .slice Au us.length cu, .slice A7 (seen.length + 1) c7, seen ++ [k]⟩, 0, rfl, RowIn.below HU0.out HRE.out.2.1, (by
                show RowIn _ _ (seen ++ [k]).length (strs (seen ++ [k]))
                rw [strs_snoc, List.length_append, List.length_singleton]
                exact RowIn.of_own (HRE.out.2.2.own HO9.out (fun b hb e => by have := (HO9.out.lt b hb).1; omega)) (by decide)), ⟨.inl ⟨rfl, rfl⟩, .inr (fun b hb => HNS.out b hb)⟩, .inr ⟨HR.out, rfl⟩⟩
            · have d2 : decide (nb ≤ (262144 : Int)) = false := decide_eq_false e2
              have HR := Lib.hid (HSB.out 130 (HPR.out.trans (if_neg (fun h => e2 h.2))))
              clear e1 e2
              have HRE := Lib.hid (ret_seven (w := w) (b := w.heap.size + 1) (Nat.le_succ _) HB8.out HR8.out nm rt wb sl qu (.slice Au us.length cu) (.slice A7 (seen.length + 1) c7))
              obtain ⟨⟨x0, x1, x2, x3, x4, x5, x6⟩, _⟩ := cells_seven HM8.out
              obtain ⟨⟨y0, y1, y2, y3, y4, y5, y6⟩, ⟨f0, f1, f2, f3, f4, f5, f6⟩⟩ := cells_seven HR8.out
              go_wp2_with fail
              exact bodyPost_ret (res_cell_tmp rfl _ _ _ rfl HRE.out.1) rfl ⟨HRE.out.2.1, ⟨⟨nm, rt, wb, sl, qu, us⟩, .slice Au us.length cu, .slice A7 (seen.length + 1) c7, seen ++ [k]⟩, 130, rfl, RowIn.below HU0.out HRE.out.2.1, (by
                show RowIn _ _ (seen ++ [k]).length (strs (seen ++ [k]))
                rw [strs_snoc, List.length_append, List.length_singleton]
                exact RowIn.of_own (HRE.out.2.2.own HO8.out (fun b hb e => by have := (HO8.out.lt b hb).1; omega)) (by decide)), ⟨.inl ⟨rfl, rfl⟩, .inr (fun b hb => HNS.out b hb)⟩, .inl ⟨130, HR.out, by decide, rfl⟩⟩
          · have d1 : decide ((0 : Int) ≤ nb) = false := decide_eq_false e1
            have HR := Lib.hid (HSB.out 130 (HPR.out.trans (if_neg (fun h => e1 h.1))))
            clear e1
            have HRE := Lib.hid (ret_seven (w := w) (b := w.heap.size + 1) (Nat.le_succ _) HB8.out HR8.out nm rt wb sl qu (.slice Au us.length cu) (.slice A7 (seen.length + 1) c7))
            obtain ⟨⟨x0, x1, x2, x3, x4, x5, x6⟩, _⟩ := cells_seven HM8.out
            obtain ⟨⟨y0, y1, y2, y3, y4, y5, y6⟩, ⟨f0, f1, f2, f3, f4, f5, f6⟩⟩ := cells_seven HR8.out
            go_wp2_with fail
            exact bodyPost_ret (res_cell_tmp rfl _ _ _ rfl HRE.out.1) rfl ⟨HRE.out.2.1, ⟨⟨nm, rt, wb, sl, qu, us⟩, .slice Au us.length cu, .slice A7 (seen.length + 1) c7, seen ++ [k]⟩, 130, rfl, RowIn.below HU0.out HRE.out.2.1, (by
              show RowIn _ _ (seen ++ [k]).length (strs (seen ++ [k]))
              rw [strs_snoc, List.length_append, List.length_singleton]
              exact RowIn.of_own (HRE.out.2.2.own HO8.out (fun b hb e => by have := (HO8.out.lt b hb).1; omega)) (by decide)), ⟨.inl ⟨rfl, rfl⟩, .inr (fun b hb => HNS.out b hb)⟩, .inl ⟨130, HR.out, by decide, rfl⟩⟩
        · have bq := txt_ne (l := [113, 117, 111, 116, 97]) hq
          have HR := Lib.hid (HSB.out 130 (by rw [putC, if_neg hr, if_neg hw, if_neg hs2, if_neg hq]))
          clear hr hw hs2 hq
          have HRE := Lib.hid (ret_seven (w := w) (b := w.heap.size + 1) (Nat.le_succ _) HB8.out HR8.out nm rt wb sl qu (.slice Au us.length cu) (.slice A7 (seen.length + 1) c7))
          obtain ⟨⟨x0, x1, x2, x3, x4, x5, x6⟩, _⟩ := cells_seven HM8.out
          obtain ⟨⟨y0, y1, y2, y3, y4, y5, y6⟩, ⟨f0, f1, f2, f3, f4, f5, f6⟩⟩ := cells_seven HR8.out
          go_wp2_with fail
          exact bodyPost_ret (res_cell_tmp rfl _ _ _ rfl HRE.out.1) rfl ⟨HRE.out.2.1, ⟨⟨nm, rt, wb, sl, qu, us⟩, .slice Au us.length cu, .slice A7 (seen.length + 1) c7, seen ++ [k]⟩, 130, rfl, RowIn.below HU0.out HRE.out.2.1, (by
            show RowIn _ _ (seen ++ [k]).length (strs (seen ++ [k]))
            rw [strs_snoc, List.length_append, List.length_singleton]
            exact RowIn.of_own (HRE.out.2.2.own HO8.out (fun b hb e => by have := (HO8.out.lt b hb).1; omega)) (by decide)), ⟨.inl ⟨rfl, rfl⟩, .inr (fun b hb => HNS.out b hb)⟩, .inl ⟨130, HR.out, by decide, rfl⟩⟩
/-- The reference's set. -/
theorem rset_any (r : RMRow) (k v : ByteArray) (w : World) (hv : v.size ≤ 8192) (hsn : r.seen.length ≤ 9000) (hn : r.md.us.length ≤ 8) (hu : UsersIn w r.uv r.md.us) (hs : SeenIn w r.sv r.seen) :
    Calls Tryz.prog 33 #[r.val, .string k, .string v] w (RSetPost r (setC r.md r.seen k v) w) := by
  by_cases hk : k = kUser
  · exact rset_user r k v w hv hsn hn hu hs hk
  · cases hh : hasC r.seen k with
    | true => exact rset_seen r k v w hv hsn hn hu hs hk hh
    | false => exact rset_put r k v w hv hsn hn hu hs hk hh
end Go.Proofs.YtddnfooachibiaaGreatDoor
