/-
  conf: Config.Find, Module.Secret.
-/
import Derived.Test.YtddnfooachibiaaGreatDoorConfRefS
set_option linter.unusedVariables false
set_option linter.unusedSimpArgs false
namespace Go.Proofs.YtddnfooachibiaaGreatDoor
open Go.RowKit Go.Maps Go.WideMaps Go.WideAt
def zMod : Value := .agg #[.string ⟨#[]⟩, .string ⟨#[]⟩, .bool false, .int .i64 0, .int .i64 0, .slice none 0 0]
def findQ (q : List MRow) (n : ByteArray) : Option MRow := q.find? fun r => decide (r.md.name = n)
theorem findQ_map (q : List MRow) (n : ByteArray) : findC (q.map MRow.md) n = (findQ q n).map MRow.md := by
  unfold findC findQ
  rw [List.find?_map]
  rfl
theorem findQ_mem {q : List MRow} {n : ByteArray} {r : MRow} (h : findQ q n = some r) : r ∈ q ∧ r.md.name = n := ⟨List.mem_of_find?_eq_some h, by simpa using List.find?_some h⟩
/-- What Find hands back. -/
def findV (o : Option MRow) : Value := match o with
  | some r => .tuple #[r.val, .bool true]
  | none => .tuple #[zMod, .bool false]
/-- Looked through from one on. -/
theorem findQ_hit {q : List MRow} {n : ByteArray} {k : Nat} (hk : k < q.length) (h : q[k].md.name = n) (hgo : findQ q n = findQ (q.drop k) n) : findQ q n = some q[k] := by
  rw [hgo, List.drop_eq_getElem_cons hk, findQ, List.find?_cons_of_pos (by simpa using h)]
theorem findQ_miss {q : List MRow} {n : ByteArray} {k : Nat} (hk : k < q.length) (h : q[k].md.name ≠ n) (hgo : findQ q n = findQ (q.drop k) n) : findQ q n = findQ (q.drop (k + 1)) n := by
  rw [hgo, List.drop_eq_getElem_cons hk, findQ, List.find?_cons_of_neg (by simpa using h)]
  rfl
theorem secretC_hit {us : List (ByteArray × ByteArray)} {n : ByteArray} {k : Nat} (hk : k < us.length) (h : us[k].1 = n) (hgo : secretC us n = secretC (us.drop k) n) : secretC us n = some us[k].2 := by
  rw [hgo, List.drop_eq_getElem_cons hk, secretC, List.find?_cons_of_pos (by simpa using h)]
  rfl
theorem secretC_miss {us : List (ByteArray × ByteArray)} {n : ByteArray} {k : Nat} (hk : k < us.length) (h : us[k].1 ≠ n) (hgo : secretC us n = secretC (us.drop k) n) : secretC us n = secretC (us.drop (k + 1)) n := by
  rw [hgo, List.drop_eq_getElem_cons hk, secretC, List.find?_cons_of_neg (by simpa using h)]
  rfl
def secV (o : Option ByteArray) : Value := match o with
  | some s => .tuple #[.string s, .bool true]
  | none => .tuple #[.string ⟨#[]⟩, .bool false]
theorem ret_val {a b : Value} (h : a = b) : Ending.returned a = .returned b := by rw [h]
set_option maxRecDepth 100000 in
set_option maxHeartbeats 1000000 in
/-- Module.Secret. -/
theorem secret_any (r : MRow) (n : ByteArray) (w : World) (hl : r.md.us.length ≤ 100000) (hu : UsersIn w r.uv r.md.us) : Calls Tryz.prog 18 #[r.val, .string n] w fun e w' => e = .returned (secV (secretC r.md.us n)) ∧ Below w.heap.size w w' := by
  obtain ⟨⟨nm, rt, wb, sl, qu, us⟩, uv⟩ := r
  simp only at hl hu ⊢
  have hb0 := below_one w (.cells #[.string nm, .string rt, .bool wb, .int .i64 sl, .int .i64 qu, uv] 41)
  have HU := Lib.hid (UsersIn.at_ (RowIn.below hu hb0))
  show Calls Tryz.prog 18 #[.agg #[.string nm, .string rt, .bool wb, .int .i64 sl, .int .i64 qu, uv], .string n] w _
  have hs0 : (w.alloc (.cells #[.string nm, .string rt, .bool wb, .int .i64 sl, .int .i64 qu, uv] 41)).heap.size = w.heap.size + 1 := by simp
  obtain ⟨A, c, rfl, hc⟩ := RowIn.slice hu
  clear hu
  go_enter Tryz.func18, Tryz.ntmps18
  go_wp2_with fail
  generalize hW0 : w.alloc (.cells #[.string nm, .string rt, .bool wb, .int .i64 sl, .int .i64 qu, .slice A us.length c] 41) = W0 at *
  have HB0 := Lib.hid hb0
  clear hb0 hW0 hc
  go_loopw [11] (fun i wr => ∃ k : Nat, k ≤ us.length ∧ i = .int .i64 k ∧ Below W0.heap.size W0 wr ∧ secretC us n = secretC (us.drop k) n) (fun i _ => us.length - (intOf i).toNat)
  case atStart => exact ⟨0, by omega, rfl, Below.refl _ _, rfl⟩
  case round =>
    obtain ⟨k, hk, rfl, hbw, hgo⟩ := hrel
    obtain ⟨wk, rfl⟩ : ∃ W, W = wr := ⟨wr, rfl⟩
    have HB := Lib.hid hbw
    have HGO := Lib.hid hgo
    have hszk := hbw.size
    clear hgo
    by_cases hlt : k < us.length
    · obtain ⟨A2, c2, e2, _, hcell⟩ := HU.out
      injection e2 with e2 _ e3
      subst e2 e3
      obtain ⟨b, off, rfl, x1, x2⟩ := hcell k hlt
      replace x1 := cell_below hbw x1
      replace x2 := cell_below hbw x2
      obtain ⟨u1, hu1⟩ : ∃ x, x = us[k].1 := ⟨_, rfl⟩
      obtain ⟨u2, hu2⟩ : ∃ x, x = us[k].2 := ⟨_, rfl⟩
      rw [← hu1] at x1
      rw [← hu2] at x2
      have HU1 := Lib.hid hu1
      have HU2 := Lib.hid hu2
      clear hcell hu1 hu2 hbw
      by_cases e : u1 = n
      · have hb := eq_beq e
        have HR : Hid (secretC us n = some u2) := Lib.hid (by rw [HU2.out]; exact secretC_hit hlt (HU1.out.symm.trans e) HGO.out)
        clear e
        go_wp2_with fail
        go_ret2
        exact ⟨ret_val (by rw [HR.out]; rfl), below_from HB0.out (below_from HB.out (below_one wk _))⟩
      · have hb := ne_beq e
        have HN := Lib.hid (secretC_miss hlt (HU1.out ▸ e) HGO.out)
        clear e
        go_wp2_with fail
        go_roundw
        case rel => exact ⟨k + 1, by omega, by go_num, below_from HB.out (below_one wk _), HN.out⟩
        case measure => simp [intOf]; omega
    · have HR : Hid (secretC us n = none) := Lib.hid (by
        rw [HGO.out, List.drop_of_length_le (by omega)]; rfl)
      obtain rfl : k = us.length := by omega
      go_wp2_with fail
      go_ret2
      exact ⟨ret_val (by rw [HR.out]; rfl), below_from HB0.out HB.out⟩
set_option maxRecDepth 100000 in
set_option maxHeartbeats 1000000 in
/-- Config.Find. -/
theorem cfind_any (v : Value) (q : List MRow) (n : ByteArray) (w : World) (hl : q.length ≤ 100000) (hq : ModsIn w v q) : Calls Tryz.prog 17 #[.agg #[v], .string n] w fun e w' => e = .returned (findV (findQ q n)) ∧ Below w.heap.size w w' := by
  have hb0 := (below_one w (.cells #[v] 25)).trans ((below_one (w.alloc (.cells #[v] 25)) (.cells #[.string ⟨#[]⟩, .string ⟨#[]⟩, .bool false, .int .i64 0, .int .i64 0, .slice none 0 0] 41)).mono (by simp))
  have HQ := Lib.hid (hq.below hb0).at_
  have HUS : Hid (∀ r ∈ q, ∃ A c, r.uv = .slice A r.md.us.length c) := Lib.hid fun r hr => by
    obtain ⟨A, c, e, _⟩ := (hq.us r hr).slice
    exact ⟨A, c, e⟩
  obtain ⟨A, c, rfl, hc⟩ := RowIn.slice hq.row
  clear hq hc
  have hs0 : ((w.alloc (.cells #[.slice A q.length c] 25)).alloc (.cells #[.string ⟨#[]⟩, .string ⟨#[]⟩, .bool false, .int .i64 0, .int .i64 0, .slice none 0 0] 41)).heap.size = w.heap.size + 2 := by simp
  have hz0 := heap_alloc_new (w.alloc (.cells #[.slice A q.length c] 25)) (.cells #[.string ⟨#[]⟩, .string ⟨#[]⟩, .bool false, .int .i64 0, .int .i64 0, .slice none 0 0] 41)
  have hs1 : (w.alloc (.cells #[.slice A q.length c] 25)).heap.size = w.heap.size + 1 := by simp
  rw [hs1] at hz0
  go_enter Tryz.func17, Tryz.ntmps17
  go_wp2_with fail
  generalize hW0 : (w.alloc (.cells #[.slice A q.length c] 25)).alloc (.cells #[.string ⟨#[]⟩, .string ⟨#[]⟩, .bool false, .int .i64 0, .int .i64 0, .slice none 0 0] 41) = W0 at *
  have HB0 := Lib.hid hb0
  have HZ0 := Lib.hid hz0
  clear hb0 hz0 hW0 hs1
  go_loopw [11] (fun i wr => ∃ k : Nat, k ≤ q.length ∧ i = .int .i64 k ∧ Below W0.heap.size W0 wr ∧ findQ q n = findQ (q.drop k) n) (fun i _ => q.length - (intOf i).toNat)
  case atStart => exact ⟨0, by omega, rfl, Below.refl _ _, rfl⟩
  case round =>
    obtain ⟨k, hk, rfl, hbw, hgo⟩ := hrel
    obtain ⟨wk, rfl⟩ : ∃ W, W = wr := ⟨wr, rfl⟩
    have HB := Lib.hid hbw
    have HGO := Lib.hid hgo
    have hszk := hbw.size
    clear hgo
    by_cases hlt : k < q.length
    · obtain ⟨A2, c2, e2, _, hcell⟩ := HQ.out
      injection e2 with e2 _ e3
      subst e2 e3
      obtain ⟨b, off, rfl, x1, x2, x3, x4, x5, x6⟩ := hcell k hlt
      replace x1 := cell_below hbw x1
      replace x2 := cell_below hbw x2
      replace x3 := cell_below hbw x3
      replace x4 := cell_below hbw x4
      replace x5 := cell_below hbw x5
      replace x6 := cell_below hbw x6
      obtain ⟨⟨⟨nm, rt, wb, sl, qu, us⟩, uv⟩, hr⟩ : ∃ r, r = q[k] := ⟨_, rfl⟩
      obtain ⟨A', c', huv⟩ := HUS.out _ (List.getElem_mem hlt)
      rw [← hr] at x1 x2 x3 x4 x5 x6 huv
      replace huv : uv = .slice A' us.length c' := huv
      subst huv
      have HR1 := Lib.hid hr
      clear hcell hr hbw
      by_cases e : nm = n
      · have hb := eq_beq e
        have HR : Hid (findQ q n = some ⟨⟨nm, rt, wb, sl, qu, us⟩, .slice A' us.length c'⟩) := Lib.hid (by rw [HR1.out]; exact findQ_hit hlt (by rw [← HR1.out]; exact e) HGO.out)
        have hbx := below_one wk (.cells #[.string nm, .string rt, .bool wb, .int .i64 sl, .int .i64 qu, .slice A' us.length c'] 41)
        have hnb := block_below (block_below HZ0.out HB.out) hbx
        have w0 := cell_of_row _ _ 0 _ _ _ hnb
        have w1 := cell_of_row _ _ 1 _ _ _ hnb
        have w2 := cell_of_row _ _ 2 _ _ _ hnb
        have w3 := cell_of_row _ _ 3 _ _ _ hnb
        have w4 := cell_of_row _ _ 4 _ _ _ hnb
        have w5 := cell_of_row _ _ 5 _ _ _ hnb
        have f0 := frozen_of_row _ _ 0 _ _ hnb
        have f1 := frozen_of_row _ _ 1 _ _ hnb
        have f2 := frozen_of_row _ _ 2 _ _ hnb
        have f3 := frozen_of_row _ _ 3 _ _ hnb
        have f4 := frozen_of_row _ _ 4 _ _ hnb
        have f5 := frozen_of_row _ _ 5 _ _ hnb
        have HN4 := Lib.hid (load_mod (put_six hnb (.string nm) (.string rt) (.bool wb) (.int .i64 sl) (.int .i64 qu) (.slice A' us.length c')))
        have HB4 := Lib.hid ((below_from HB0.out (below_from HB.out hbx)).trans ((below_setCells_of (w.heap.size + 1) [.string nm, .string rt, .bool wb, .int .i64 sl, .int .i64 qu, .slice A' us.length c'] 0 _).mono (Nat.le_succ _)))
        clear hnb hbx e
        go_wp2_with fail
        exact bodyPost_ret (res_cell_tmp rfl _ _ _ rfl HN4.out) rfl ⟨ret_val (by rw [HR.out]; rfl), HB4.out⟩
      · have hb := ne_beq e
        have HN := Lib.hid (findQ_miss hlt (by rw [← HR1.out]; exact e) HGO.out)
        clear e
        go_wp2_with fail
        go_roundw
        case rel => exact ⟨k + 1, by omega, by go_num, below_from HB.out (below_one wk _), HN.out⟩
        case measure => simp [intOf]; omega
    · have HR : Hid (findQ q n = none) := Lib.hid (by
        rw [HGO.out, List.drop_of_length_le (by omega)]; rfl)
      obtain rfl : k = q.length := by omega
      have hnb := block_below HZ0.out HB.out
      have w0 := cell_of_row _ _ 0 _ _ _ hnb
      have w1 := cell_of_row _ _ 1 _ _ _ hnb
      have w2 := cell_of_row _ _ 2 _ _ _ hnb
      have w3 := cell_of_row _ _ 3 _ _ _ hnb
      have w4 := cell_of_row _ _ 4 _ _ _ hnb
      have w5 := cell_of_row _ _ 5 _ _ _ hnb
      have f0 := frozen_of_row _ _ 0 _ _ hnb
      have f1 := frozen_of_row _ _ 1 _ _ hnb
      have f2 := frozen_of_row _ _ 2 _ _ hnb
      have f3 := frozen_of_row _ _ 3 _ _ hnb
      have f4 := frozen_of_row _ _ 4 _ _ hnb
      have f5 := frozen_of_row _ _ 5 _ _ hnb
      have HN4 := Lib.hid (load_mod (put_six hnb (.string ⟨#[]⟩) (.string ⟨#[]⟩) (.bool false) (.int .i64 0) (.int .i64 0) (.slice none 0 0)))
      have HB4 := Lib.hid ((below_from HB0.out HB.out).trans ((below_setCells_of (w.heap.size + 1) [.string ⟨#[]⟩, .string ⟨#[]⟩, .bool false, .int .i64 0, .int .i64 0, .slice none 0 0] 0 wk).mono (Nat.le_succ _)))
      clear hnb
      go_wp2_with fail
      exact bodyPost_ret (res_cell_tmp rfl _ _ _ rfl HN4.out) rfl ⟨ret_val (by rw [HR.out]; rfl), HB4.out⟩
end Go.Proofs.YtddnfooachibiaaGreatDoor
