/-
  The reference's lines, number, has, digits.
-/
import Derived.Test.YtddnfooachibiaaGreatDoorConfMem
import Derived.Test.YtddnfooachibiaaGreatDoorConfName
set_option linter.unusedVariables false
set_option linter.unusedSimpArgs false
namespace Go.Proofs.YtddnfooachibiaaGreatDoor
open Go.RowKit Go.Maps Go.WideMaps Go.WideAt
theorem hasC_at {l : List ByteArray} {s : ByteArray} {k : Nat} (hk : k < l.length) (h : l[k] = s) : hasC l s = true := List.any_eq_true.2 ⟨_, List.getElem_mem hk, by simp [h]⟩
theorem hasC_no {l : List ByteArray} {s : ByteArray} (h : ∀ k (hk : k < l.length), l[k] ≠ s) : hasC l s = false := by
  unfold hasC
  rw [List.any_eq_false]
  intro x hx
  obtain ⟨k, hk, rfl⟩ := List.getElem_of_mem hx
  simpa using h k hk
theorem eq_beq {a b : ByteArray} (h : a = b) : (a.toList == b.toList) = true := by rw [h]; simp
theorem toList_inj {a b : ByteArray} (h : a.toList = b.toList) : a = b := by
  rw [ByteArray.toList_eq, ByteArray.toList_eq] at h
  cases a; cases b
  congr
  exact Array.toList_inj.1 h
theorem ne_beq {a b : ByteArray} (h : a ≠ b) : (a.toList == b.toList) = false := by
  rw [beq_eq_false_iff_ne]
  exact fun e => h (toList_inj e)
set_option maxRecDepth 100000 in
set_option maxHeartbeats 1000000 in
/-- The reference's has. -/
theorem rhas_any (A : Option Addr) (c : Nat) (l : List ByteArray) (s : ByteArray) (w : World) (hl : l.length ≤ 100000) (hc : TextRow w A l) : Calls Tryz.prog 55 #[.slice A l.length c, .string s] w fun e w' => e = .returned (.bool (hasC l s)) ∧ w' = w := by
  have HC := Lib.hid hc
  clear hc
  go_enter Tryz.func55, Tryz.ntmps55
  go_wp2_with fail
  go_loop [5] (fun i => ∃ k : Nat, k ≤ l.length ∧ i = .int .i64 k ∧ ∀ j (hj : j < l.length), j < k → l[j] ≠ s) (fun i => l.length - (intOf i).toNat)
  case atStart => exact ⟨0, by omega, rfl, fun j hj h => by omega⟩
  case round =>
    obtain ⟨k, hk, rfl, hno⟩ := hrel
    have HNO := Lib.hid hno
    clear hno
    by_cases hlt : k < l.length
    · obtain ⟨ad, rfl, hT⟩ := HC.out (by omega)
      have hcx := hT k hlt
      obtain ⟨x, hx⟩ : ∃ x, x = l[k] := ⟨_, rfl⟩
      rw [← hx] at hcx
      have HX := Lib.hid hx
      clear hT hx
      by_cases e : x = s
      · have hb := eq_beq e
        have HR := Lib.hid (hasC_at hlt (HX.out.symm.trans e))
        clear e
        go_wp2_with fail
        go_ret
        exact ⟨ret_true' HR.out, rfl⟩
      · have hb := ne_beq e
        have HE := Lib.hid e
        clear e
        go_wp2_with fail
        go_round
        case rel => exact ⟨k + 1, by omega, by go_num, fun j hj h => by
          by_cases e : j = k
          · subst e; rw [← HX.out]; exact HE.out
          · exact HNO.out j hj (by omega)⟩
        case measure => simp [intOf]; omega
    · have HR := Lib.hid (hasC_no (l := l) (s := s) (fun k hk => HNO.out k hk (by omega)))
      obtain rfl : k = l.length := by omega
      go_wp2_with fail
      go_ret
      exact ⟨ret_false' HR.out, rfl⟩
theorem numB_empty {s : ByteArray} (h : s.size = 0) : numB s = -1 := by rw [numB, if_pos (.inl (none_of h))]
theorem numB_long {s : ByteArray} (h : 6 < s.size) : numB s = -1 := by rw [numB, if_pos (.inr (.inl (by simpa using h)))]
theorem head_at {s : ByteArray} (h : 0 < s.size) : s.data.toList.head? = some s[0] := by
  rw [List.head?_eq_getElem?, List.getElem?_eq_getElem (by simpa using h)]
  rfl
theorem numB_nought {s : ByteArray} (h : 1 < s.size) (e : (s[0]'(by omega)) = 48) : numB s = -1 := by
  have h1 : s.data.toList.head? = some 48 := by rw [head_at (by omega), e]
  rw [numB, if_pos (.inr (.inr (.inl ⟨h1, by simpa using h⟩)))]
theorem numB_letter {s : ByteArray} {k : Nat} (hk : k < s.size) (h : digU s[k] = false) : numB s = -1 := by
  have h1 : s.data.toList.all digU = false := List.all_eq_false.2 ⟨s[k], mem_at hk, by rw [h]; decide⟩
  rw [numB, if_pos (.inr (.inr (.inr h1)))]
theorem numB_all {s : ByteArray} (h0 : s.size ≠ 0) (h6 : s.size ≤ 6) (hn : (s[0]'(by omega)) = 48 → s.size ≤ 1) (h : s.data.toList.all digU = true) : numB s = (digV 0 s.data.toList : Int) := by
  have hl : s.data.toList.length = s.size := by simp
  rw [numB, if_neg]
  rintro (e | e | ⟨e1, e2⟩ | e)
  · exact h0 (by rw [← hl, e]; rfl)
  · omega
  · rw [head_at (by omega)] at e1
    have := hn (Option.some.inj e1)
    omega
  · rw [h] at e; cases e
theorem digV_take {s : ByteArray} {k : Nat} (hk : k < s.size) : digV 0 (s.data.toList.take (k + 1)) = digV 0 (s.data.toList.take k) * 10 + (s[k].toNat - 48) := by
  rw [List.take_succ_eq_append_getElem (by simpa using hk), digV_snoc]
  rfl
theorem digs_step {s : ByteArray} {k : Nat} (hk : k < s.size) (h : (s.data.toList.take k).all digU = true) (hc : digU s[k] = true) : (s.data.toList.take (k + 1)).all digU = true := by
  rw [List.take_succ_eq_append_getElem (by simpa using hk), List.all_append, h, List.all_cons, List.all_nil, Bool.and_true, Bool.true_and]
  exact hc
theorem digU_iff (c : UInt8) : digU c = true ↔ (48 ≤ (c.toNat : Int) ∧ (c.toNat : Int) ≤ 57) := by
  unfold digU
  simp only [Bool.and_eq_true, decide_eq_true_eq]
  omega
set_option maxRecDepth 100000 in
set_option maxHeartbeats 1000000 in
/-- The reference's number. -/
theorem rnumber_any (s : ByteArray) (w : World) (hs : s.size ≤ 140737488351232) : Calls Tryz.prog 56 #[.string s] w fun e w' => e = .returned (.int .i64 (numB s)) ∧ w' = w := by
  by_cases h0 : s.size = 0
  · have he := empty_of h0
    have HR := Lib.hid (numB_empty h0)
    clear h0
    go_enter Tryz.func56, Tryz.ntmps56
    go_wp2_with fail
    go_ret
    exact ⟨ret_int HR.out.symm, rfl⟩
  · have he := some_of h0
    by_cases h1 : 6 < s.size
    · have h16 : (6 : Int) < s.size := by omega
      have HR := Lib.hid (numB_long h1)
      go_enter Tryz.func56, Tryz.ntmps56
      go_wp2_with fail
      go_ret
      exact ⟨ret_int HR.out.symm, rfl⟩
    · have hle : (s.size : Int) ≤ 6 := by omega
      have h6 : s.size ≤ 6 := by omega
      have hp0 : 0 < s.size := by omega
      by_cases hn : 1 < s.size ∧ s[0] = 48
      · have HR := Lib.hid (numB_nought hn.1 hn.2)
        have hb : ((s[0].toNat : Int) == 48) = true := by rw [beq_iff_eq, hn.2]; rfl
        have h1i : (1 : Int) < s.size := by omega
        go_enter Tryz.func56, Tryz.ntmps56
        go_wp2_with fail
        go_ret
        exact ⟨ret_int HR.out.symm, rfl⟩
      · have HN : Hid (s[0] = 48 → s.size ≤ 1) := Lib.hid (fun e => by
          by_cases h : 1 < s.size
          · exact absurd ⟨h, e⟩ hn
          · omega)
        have hcase : (((s[0].toNat : Int) == 48) = true ∧ (s.size : Int) = 1) ∨ ((s[0].toNat : Int) == 48) = false := by
          by_cases e : s[0] = 48
          · left
            refine ⟨by rw [beq_iff_eq, e]; rfl, ?_⟩
            have := HN.out e
            omega
          · right
            rw [beq_eq_false_iff_ne]
            intro h
            exact e (UInt8.toNat_inj.1 (by simp; omega))
        clear hn h1
        go_enter Tryz.func56, Tryz.ntmps56
        rcases hcase with ⟨b1, b2⟩ | b1
        all_goals (
          go_wp2_with fail
          go_loop [3, 4] (fun n i => ∃ k d : Nat, k ≤ s.size ∧ i = .int .i64 k ∧ n = .int .i64 d ∧ d = digV 0 (s.data.toList.take k) ∧ d < 10 ^ k ∧ (s.data.toList.take k).all digU = true) (fun _ i => s.size - (intOf i).toNat)
          case atStart => exact ⟨0, 0, by omega, rfl, rfl, by simp [digV], by decide, rfl⟩
          case round =>
            obtain ⟨k, d, hk, rfl, rfl, hd, hd10, hall⟩ := hrel
            have HALL := Lib.hid hall
            have HD := Lib.hid hd
            clear hall hd b1
            by_cases hp : k < s.size
            · have h10 : 10 ^ k ≤ 10 ^ 5 := Nat.pow_le_pow_right (by decide) (by omega)
              have hd5 : d < 100000 := by have : (10 : Nat) ^ 5 = 100000 := by decide
                                          omega
              cases hc : digU s[k] with
              | true =>
                obtain ⟨t1, t2⟩ := (digU_iff s[k]).1 hc
                have HS := Lib.hid (digs_step hp HALL.out hc)
                have HV := Lib.hid (digV_take hp)
                rw [← HD.out] at HV
                have H10 : Hid (d * 10 + (s[k].toNat - 48) < 10 ^ (k + 1)) := Lib.hid (by rw [Nat.pow_succ]; omega)
                have b3 : decide ((s[k].toNat : Int) < 48) = false := decide_eq_false (by omega)
                have b4 : decide ((57 : Int) < s[k].toNat) = false := decide_eq_false (by omega)
                clear hc h10 hd10
                go_wp2_with fail
                go_round
                case rel => exact ⟨k + 1, d * 10 + (s[k].toNat - 48), by omega, by go_num, by go_num, HV.out.symm, H10.out, HS.out⟩
                case measure => simp [intOf]; omega
              | false =>
                have HR := Lib.hid (numB_letter hp hc)
                have hno := mt (digU_iff s[k]).2 (Bool.eq_false_iff.1 hc)
                have h4 : ((s[k].toNat : Int) < 48) ∨ (¬ (s[k].toNat : Int) < 48 ∧ (57 : Int) < s[k].toNat) := by omega
                clear hc hno h10 hd10
                rcases h4 with h | ⟨h, h'⟩
                all_goals (
                  go_wp2_with fail
                  go_ret
                  exact ⟨ret_int HR.out.symm, rfl⟩)
            · obtain rfl : k = s.size := by omega
              have HR : Hid (numB s = (d : Int)) := Lib.hid (by
                have h1 := HALL.out
                have h2 := HD.out
                rw [List.take_of_length_le (by simp)] at h1 h2
                rw [h2]
                exact numB_all h0 h6 HN.out h1)
              go_wp2_with fail
              go_ret
              exact ⟨ret_int HR.out.symm, rfl⟩)
/-- One more line: a line's bytes, and what is behind it. -/
theorem line_at {s : ByteArray} {a k : Nat} (ha : a ≤ k) (hk : k < s.size) (h : (10 : UInt8) ∉ (s.data.toList.drop a).take (k - a)) (e : s[k] = 10) : linesL (s.data.toList.drop a) = (s.extract a k).data.toList :: linesL (s.data.toList.drop (k + 1)) := by
  have h1 : s.data.toList.drop a = (s.data.toList.drop a).take (k - a) ++ 10 :: s.data.toList.drop (k + 1) := by
    have h2 := List.take_append_drop (k - a) (s.data.toList.drop a)
    rw [List.drop_drop, show a + (k - a) = k by omega, List.drop_eq_getElem_cons (i := k) (by simpa using hk)] at h2
    have e2 : s.data.toList[k]'(by simpa using hk) = 10 := e
    rw [e2] at h2
    exact h2.symm
  conv => lhs; rw [h1]
  rw [linesL_cons _ _ h]
  congr 1
  rw [ByteArray.data_extract]
  simp [List.drop_take]
theorem line_last {s : ByteArray} {a : Nat} (ha : a ≤ s.size) (h : (10 : UInt8) ∉ (s.data.toList.drop a).take (s.size - a)) : linesL (s.data.toList.drop a) = [(s.extract a s.size).data.toList] := by
  have h1 : (s.data.toList.drop a).take (s.size - a) = s.data.toList.drop a := List.take_of_length_le (by simp)
  rw [h1] at h
  rw [linesL_one _ h, Lib.extract_from]
theorem line_more {s : ByteArray} {a k : Nat} (ha : a ≤ k) (hk : k < s.size) (h : (10 : UInt8) ∉ (s.data.toList.drop a).take (k - a)) (e : s[k] ≠ 10) : (10 : UInt8) ∉ (s.data.toList.drop a).take (k + 1 - a) := by
  rw [show k + 1 - a = (k - a) + 1 by omega, List.take_succ_eq_append_getElem (by simp; omega)]
  intro hm
  rcases List.mem_append.1 hm with hm | hm
  · exact h hm
  · rw [List.mem_singleton, List.getElem_drop] at hm
    have : s.data.toList[a + (k - a)]'(by simp; omega) = s[k] := by
      simp only [show a + (k - a) = k by omega]
      rfl
    exact e (this.symm.trans hm.symm)
set_option maxRecDepth 100000 in
set_option maxHeartbeats 1000000 in
/-- The reference's lines. -/
theorem rlines_any (s : ByteArray) (w : World) (hs : s.size ≤ 1000000) : Calls Tryz.prog 29 #[.string s] w fun e w' => ∃ v, e = .returned v ∧ w'.ownsRow w.heap.size 9 1 v (linesL s.data.toList).length (strs ((linesL s.data.toList).map bA)) ∧ Below w.heap.size w w' := by
  obtain ⟨j0, hj0, hjz0, hjz1, hjz2⟩ := info_parts infoTxt
  go_enter Tryz.func29, Tryz.ntmps29
  go_wp2_with fail
  go_loopw [3, 4, 5] (fun ov a i wr => ∃ (k f : Nat) (L : List (List UInt8)), k ≤ s.size ∧ f ≤ k ∧ i = .int .i64 k ∧ a = .int .i64 f ∧ L.length ≤ k ∧ wr.ownsRow w.heap.size 9 1 ov L.length (strs (L.map bA)) ∧ Below w.heap.size w wr ∧ linesL s.data.toList = L ++ linesL (s.data.toList.drop f) ∧ (10 : UInt8) ∉ (s.data.toList.drop f).take (k - f)) (fun _ _ i _ => s.size - (intOf i).toNat)
  case atStart => exact ⟨0, 0, [], by omega, by omega, rfl, rfl, by simp, ⟨rfl, .inl ⟨rfl, rfl⟩⟩, Below.refl _ _, rfl, by simp⟩
  case round =>
    obtain ⟨k, f, L, hk, hf, rfl, rfl, hL, how, hb, hgo, hno⟩ := hrel
    obtain ⟨wk, rfl⟩ : ∃ W, W = wr := ⟨wr, rfl⟩
    have HOW := Lib.hid how
    have HB := Lib.hid hb
    have HGO := Lib.hid hgo
    have HNO := Lib.hid hno
    have hszk := hb.size
    clear how hb hgo hno
    by_cases hp : k < s.size
    · by_cases e : s[k] = 10
      · have hb10 : ((s[k].toNat : Int) == 10) = true := by rw [beq_iff_eq, e]; rfl
        have HLN : Hid (linesL s.data.toList = (L ++ [(s.extract f k).data.toList]) ++ linesL (s.data.toList.drop (k + 1))) := Lib.hid (by
          rw [HGO.out, line_at hf hp HNO.out e, List.append_assoc]; rfl)
        have HX : Hid (strs ((L ++ [(s.extract f k).data.toList]).map bA) = strs (L.map bA) ++ [.string (s.extract f k)]) := Lib.hid (by
          rw [List.map_append, List.map_cons, List.map_nil, strs, List.map_append]; rfl)
        have HOWA := Lib.hid (own_stay HOW.out (below_one wk (.cells #[.string (s.extract f k)] 9)))
        obtain ⟨xs, hxs⟩ : ∃ xs, xs = strs (L.map bA) := ⟨_, rfl⟩
        rw [← hxs] at HOWA HX
        have hlen : Hid (xs.length = L.length) := Lib.hid (by rw [hxs]; simp [strs])
        clear e hxs
        go_wp2_with (at_builtin; go_loud (refine wpList_append_own _ rfl (.tmp 16) (.tmp 21) 43 rfl w.heap.size 9 j0 (.string ⟨#[]⟩) 1 16 Tryz.underlying43 hj0 hjz0 hjz1 hjz2 rfl (by decide) u3 L.length xs (by simp [Act.eval, Act.put]) HOWA.out ⟨wk.heap.size, 0, none⟩ 1 1 [.string (s.extract f k)] (by simp [Act.eval, Act.put]) rfl (cell_one_new _ _ _) (fun u hu => by (simp at hu; subst hu; rfl)) (by unfold maxLen; omega) (by omega) (by simp; omega) ?_); intro v5 w5 hown5 hg5 _)
        have HB5 := Lib.hid ((HB.out.trans ((below_one wk (.cells #[.string (s.extract f k)] 9)).mono HB.out.size)).grown hg5 (by simp; omega) (fun j hj => (HOWA.out.lt j hj).1))
        have hfin : w5.ownsRow w.heap.size 9 1 v5 (L ++ [(s.extract f k).data.toList]).length (strs ((L ++ [(s.extract f k).data.toList]).map bA)) := by
          rw [HX.out, List.length_append, List.length_singleton]
          exact hown5
        have HFIN := Lib.hid hfin
        clear hown5 hg5 hfin
        go_roundw
        case rel => exact ⟨k + 1, k + 1, L ++ [(s.extract f k).data.toList], by omega, by omega, by go_num, by go_num, by rw [List.length_append, List.length_singleton]; omega, HFIN.out, HB5.out, HLN.out, by simp⟩
        case measure => simp [intOf]; omega
      · have hb10 : ((s[k].toNat : Int) == 10) = false := by rw [beq_eq_false_iff_ne]; intro h; exact e (UInt8.toNat_inj.1 (by simp; omega))
        have HM := Lib.hid (line_more hf hp HNO.out e)
        clear e
        go_wp2_with fail
        go_roundw
        case rel => exact ⟨k + 1, f, L, by omega, by omega, by go_num, rfl, by omega, HOW.out, HB.out, HGO.out, HM.out⟩
        case measure => simp [intOf]; omega
    · obtain rfl : k = s.size := by omega
      have HLN : Hid (linesL s.data.toList = L ++ [(s.extract f s.size).data.toList]) := Lib.hid (by rw [HGO.out, line_last hf HNO.out])
      have HX : Hid (strs ((L ++ [(s.extract f s.size).data.toList]).map bA) = strs (L.map bA) ++ [.string (s.extract f s.size)]) := Lib.hid (by
          rw [List.map_append, List.map_cons, List.map_nil, strs, List.map_append]; rfl)
      have HOWA := Lib.hid (own_stay HOW.out (below_one wk (.cells #[.string (s.extract f s.size)] 9)))
      obtain ⟨xs, hxs⟩ : ∃ xs, xs = strs (L.map bA) := ⟨_, rfl⟩
      rw [← hxs] at HOWA HX
      have hlen : Hid (xs.length = L.length) := Lib.hid (by rw [hxs]; simp [strs])
      clear hxs
      go_wp2_with (at_builtin; go_loud (refine wpList_append_own _ rfl (.tmp 25) (.tmp 29) 43 rfl w.heap.size 9 j0 (.string ⟨#[]⟩) 1 16 Tryz.underlying43 hj0 hjz0 hjz1 hjz2 rfl (by decide) u3 L.length xs (by simp [Act.eval, Act.put]) HOWA.out ⟨wk.heap.size, 0, none⟩ 1 1 [.string (s.extract f s.size)] (by simp [Act.eval, Act.put]) rfl (cell_one_new _ _ _) (fun u hu => by (simp at hu; subst hu; rfl)) (by unfold maxLen; omega) (by omega) (by simp; omega) ?_); intro v5 w5 hown5 hg5 _)
      have HB5 := Lib.hid ((HB.out.trans ((below_one wk (.cells #[.string (s.extract f s.size)] 9)).mono HB.out.size)).grown hg5 (by simp; omega) (fun j hj => (HOWA.out.lt j hj).1))
      go_ret
      exact ⟨_, rfl, by rw [HLN.out, HX.out, List.length_append, List.length_singleton]; exact hown5, HB5.out⟩
end Go.Proofs.YtddnfooachibiaaGreatDoor
