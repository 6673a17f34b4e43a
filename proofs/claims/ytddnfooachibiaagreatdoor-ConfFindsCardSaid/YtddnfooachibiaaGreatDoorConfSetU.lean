/-
  (*Module).set: a user more; and all of it.
-/
import Derived.Test.YtddnfooachibiaaGreatDoorConfSet
import Derived.Maps.AppendAt
set_option linter.unusedVariables false
set_option linter.unusedSimpArgs false
namespace Go.Proofs.YtddnfooachibiaaGreatDoor
open Go.RowKit Go.Maps Go.WideMaps Go.WideAt
theorem cut_any (s : ByteArray) (c : UInt8) (w : World) (hs : s.size ≤ 1000000) (hg : EnvM w) : Calls Tryz.prog 23 #[.string s, .string ⟨#[c]⟩] w fun e w' => e = .returned (.tuple #[.string (bA (Lib.cut s.data.toList [c]).1), .string (bA (Lib.cut s.data.toList [c]).2.1), .bool (Lib.cut s.data.toList [c]).2.2]) ∧ Below w.heap.size w w' := by
  obtain ⟨m, hm⟩ := hg
  refine (Tryz.strings_Cut s ⟨#[c]⟩ m w (by omega) hm).mono ?_
  rintro e w' ⟨rfl, n, rfl⟩
  exact ⟨rfl, below_drewN (Below.refl _ _) n⟩
theorem cut_len {l : List UInt8} {c : UInt8} : (Lib.cut l [c]).1.length ≤ l.length ∧ (Lib.cut l [c]).2.1.length ≤ l.length := ⟨(cut_prefix l [c]).length_le, (cut_suffix l [c]).length_le⟩
theorem bA_size (l : List UInt8) : (bA l).size = l.length := by simp [bA, ByteArray.size]
theorem own_slice {w : World} {base size n : Nat} {e : TypeId} {v : Value} {xs : List Value} (h : w.ownsRow base e size v n xs) : ∃ A c, v = .slice A n c := by
  rcases h.2 with ⟨rfl, h0⟩ | ⟨b, cap, cur, rfl, _⟩
  · exact ⟨none, 0, by rw [h0]⟩
  · exact ⟨_, _, rfl⟩
theorem src_two' (w : World) (a b : Value) (t : TypeId) : ∀ j u, ([a, b] : List Value)[j]? = some u → (w.alloc (.cells #[a, b] t)).cell? ((⟨w.heap.size, 0, none⟩ : Addr).add j) = some u := src_two w a b t
theorem last_cell (pre : List MRow) (r : MRow) (j : Nat) (hj : j < 6) : (flatM (pre ++ [r]))[pre.length * 6 + j]? = r.cells[j]? := by
  have := flatH_get MRow.cells_len (pre ++ [r]) pre.length (by simp) j hj
  rw [flatM, this]
  simp
/-- The users are put. -/
theorem put_users {w : World} {base bl g cap : Nat} {pre : List MRow} {r r' : MRow} {sb n : Nat} {seen : List ByteArray} (hrow : w.ownsRow base 41 6 (.slice (some ⟨g, 0, none⟩) (pre.length + 1) cap) (pre.length + 1) (flatM (pre ++ [r])))
    (hs : SeenAt w sb n seen) (ho : w.ownsRow bl 54 2 r'.uv r'.md.us.length (usC r'.md.us)) (hle : bl ≤ w.heap.size) (h1 : base ≤ bl) (h2 : base ≤ sb) (hr : r'.cells = r.cells.set 5 r'.uv) :
    SetIn (w.setCell ⟨g, pre.length * 6 + 5, none⟩ r'.uv) base bl g cap pre r' sb n seen := by
  obtain ⟨q1, q2⟩ := hrow.stored (pre.length * 6 + 5) r'.uv
  rw [row_set, ← hr, ← flatM_snoc] at q1
  obtain ⟨es, ck, hm⟩ := hs.isMap
  exact ⟨q1, (OffRow.of hrow).other ho (by decide) q2, hs.grown q2 ((OffRow.of hrow).ne hm), Nat.le_trans hle q2.size, h1, h2⟩
set_option maxRecDepth 100000 in
set_option maxHeartbeats 2000000 in
/-- user. -/
theorem set_user (w0 : World) (bl g cap : Nat) (pre : List MRow) (r : MRow) (sb n : Nat) (seen : List ByteArray) (k v : ByteArray) (w : World) (hk : k.size ≤ 140737488351232) (hv : v.size ≤ 1000000) (hn : n ≤ 1000000) (hin : SetIn w w0.heap.size bl g cap pre r sb n seen) (hb0 : Below w0.heap.size w0 w) (hg : EnvC w0) (h8 : r.md.us.length ≤ 8) (hu : k = kUser) :
    Calls Tryz.prog 26 #[.pointer (some ⟨g, pre.length * 6, none⟩), .string k, .string v, .map (some sb)] w (MSetPost w0.heap.size bl g cap pre r sb n seen k v w) := by
  obtain ⟨⟨nm, rt, wb, sl, qu, us⟩, uv⟩ := r
  obtain ⟨Au, cu, huv⟩ := own_slice hin.us
  replace huv : uv = .slice Au us.length cu := huv
  subst huv
  replace h8 : us.length ≤ 8 := h8
  have bu := txt_eq (l := [117, 115, 101, 114]) hu
  have bu' := txt_nb (l := [117, 115, 101, 114]) hu
  have br : (k.toList == [114, 111, 111, 116]) = false := txt_ne (l := [114, 111, 111, 116]) (by rw [hu]; decide)
  have bw : (k.toList == [119, 114, 105, 116, 101]) = false := txt_ne (l := [119, 114, 105, 116, 101]) (by rw [hu]; decide)
  have bs : (k.toList == [115, 108, 111, 116, 115]) = false := txt_ne (l := [115, 108, 111, 116, 115]) (by rw [hu]; decide)
  have bq : (k.toList == [113, 117, 111, 116, 97]) = false := txt_ne (l := [113, 117, 111, 116, 97]) (by rw [hu]; decide)
  obtain ⟨w1, hrun1, hs1, hg1⟩ := hin.seen.put hk hn
  rw [if_pos hu] at hs1
  have HIN1 := Lib.hid (hin.mapped hg1 hs1)
  have HF1 := Lib.hid (fr_map (g := g) (uv := .slice Au us.length cu) hg1)
  have HB1 := Lib.hid (hin.kept (S := SetS g sb (.slice Au us.length cu)) (fun k h => h) HF1.out hb0)
  have HKEEP := Lib.hid (fun (W : World) (hF : FrB (SetS g sb (.slice Au us.length cu)) w W) => hin.kept (S := SetS g sb (.slice Au us.length cu)) (fun k h => h) hF hb0)
  have HSET : Hid (setC ⟨nm, rt, wb, sl, qu, us⟩ seen k v = (userC ⟨nm, rt, wb, sl, qu, us⟩ v).map fun m => (m, seen)) := Lib.hid (by rw [setC, if_pos hu])
  have HC := Lib.hid (cut_any v 58 w1 hv (hg.below HB1.out).env.ml)
  have HG := Lib.hid hg
  obtain ⟨hca, hcb⟩ := cut_len (l := v.data.toList) (c := 58)
  have hvl : v.data.toList.length = v.size := by simp
  have HUC : Hid (userC ⟨nm, rt, wb, sl, qu, us⟩ v = _) := Lib.hid (userC.eq_1 ⟨nm, rt, wb, sl, qu, us⟩ v)
  rw [hvl] at hca hcb
  generalize Lib.cut v.data.toList [58] = cc at *
  obtain ⟨la, lb, there⟩ := cc
  simp only at hca hcb
  have za := bA_size la
  have zb := bA_size lb
  have HLB : Hid ((lb = [] ↔ (bA lb).size = 0) ∧ lb.length = (bA lb).size) := Lib.hid ⟨by rw [zb]; exact List.length_eq_zero_iff.symm, zb.symm⟩
  obtain ⟨a, ha⟩ : ∃ a, a = bA la := ⟨_, rfl⟩
  obtain ⟨b, hb⟩ : ∃ b, b = bA lb := ⟨_, rfl⟩
  have HUC2 : Hid (userC ⟨nm, rt, wb, sl, qu, us⟩ v = if there = false ∨ b.size = 0 ∨ 16 < b.size then .error 130 else if nameC a = false then .error 131 else if (secretC us a).isSome then .error 5 else if 8 ≤ us.length then .error 3 else .ok ⟨nm, rt, wb, sl, qu, us ++ [(a, b)]⟩) := Lib.hid (by
    rw [HUC.out, ha, hb]
    simp only [HLB.out.1, HLB.out.2])
  simp only [← ha, ← hb] at HC za zb
  clear hin hb0 hg hu hs1 hg1 HUC HLB ha hb hvl
  go_enter Tryz.func26, Tryz.ntmps26
  go_wp2_with fail
  refine HC.out.mono ?_
  rintro e w2 ⟨rfl, hb2⟩
  have HIN2 := Lib.hid (HIN1.out.below hb2)
  have HF2 := Lib.hid (fr_on HF1.out (FrB.of_below hb2))
  clear hb2
  cases there with
  | false =>
    have HR : Hid (setC ⟨nm, rt, wb, sl, qu, us⟩ seen k v = .error 130) := Lib.hid (by rw [HSET.out, HUC2.out, if_pos (.inl rfl)]; rfl)
    go_wp2_with fail
    go_ret
    exact ⟨HF2.out, .inl ⟨130, HR.out, by decide, rfl⟩⟩
  | true =>
    by_cases e0 : b.size = 0
    · have he := empty_of e0
      have HR : Hid (setC ⟨nm, rt, wb, sl, qu, us⟩ seen k v = .error 130) := Lib.hid (by rw [HSET.out, HUC2.out, if_pos (.inr (.inl e0))]; rfl)
      clear e0
      go_wp2_with fail
      go_ret
      exact ⟨HF2.out, .inl ⟨130, HR.out, by decide, rfl⟩⟩
    · have he := some_of e0
      by_cases e1 : 16 < b.size
      · have hi : decide ((16 : Int) < b.size) = true := decide_eq_true (by omega)
        have HR : Hid (setC ⟨nm, rt, wb, sl, qu, us⟩ seen k v = .error 130) := Lib.hid (by rw [HSET.out, HUC2.out, if_pos (.inr (.inr e1))]; rfl)
        clear e0
        go_wp2_with fail
        go_ret
        exact ⟨HF2.out, .inl ⟨130, HR.out, by decide, rfl⟩⟩
      · have hi : decide ((16 : Int) < b.size) = false := decide_eq_false (by omega)
        have HUC3 := Lib.hid (HUC2.out.trans (if_neg (fun h => by
          rcases h with h | h | h
          · cases h
          · exact e0 h
          · exact e1 h)))
        have HNM := Lib.hid (fun W => cname_any a W (by omega))
        clear e0 HUC2
        cases hnm : nameC a with
        | false =>
          have HR : Hid (setC ⟨nm, rt, wb, sl, qu, us⟩ seen k v = .error 131) := Lib.hid (by rw [HSET.out, HUC3.out, if_pos hnm]; rfl)
          go_wp2_with fail
          refine (HNM.out _).mono ?_
          rw [hnm]
          rintro e w3 ⟨rfl, hb3⟩
          have HF3 := Lib.hid (fr_on HF2.out (FrB.of_below hb3))
          clear hb3 hnm
          go_wp2_with fail
          go_ret
          exact ⟨HF3.out, .inl ⟨131, HR.out, by decide, rfl⟩⟩
        | true =>
          have HUC4 := Lib.hid (HUC3.out.trans (if_neg (by rw [hnm]; decide)))
          go_wp2_with fail
          refine (HNM.out _).mono ?_
          rw [hnm]
          rintro e w3 ⟨rfl, hb3⟩
          have HF3 := Lib.hid (fr_on HF2.out (FrB.of_below hb3))
          have HIN3 := Lib.hid (HIN2.out.below hb3)
          have x0 : w3.cell? ⟨g, pre.length * 6, none⟩ = some (.string nm) := HIN3.out.cells 0 (by decide)
          have x1 : w3.cell? ⟨g, pre.length * 6 + 1, none⟩ = some (.string rt) := HIN3.out.cells 1 (by decide)
          have x2 : w3.cell? ⟨g, pre.length * 6 + 2, none⟩ = some (.bool wb) := HIN3.out.cells 2 (by decide)
          have x3 : w3.cell? ⟨g, pre.length * 6 + 3, none⟩ = some (.int .i64 sl) := HIN3.out.cells 3 (by decide)
          have x4 : w3.cell? ⟨g, pre.length * 6 + 4, none⟩ = some (.int .i64 qu) := HIN3.out.cells 4 (by decide)
          have x5 : w3.cell? ⟨g, pre.length * 6 + 5, none⟩ = some (.slice Au us.length cu) := HIN3.out.cells 5 (by decide)
          have HSC := Lib.hid (secret_any ⟨⟨nm, rt, wb, sl, qu, us⟩, .slice Au us.length cu⟩ a w3 (by simp only; omega) (RowIn.of_own HIN3.out.us (by decide)))
          clear hb3 hnm HUC3
          go_wp2_with fail
          refine HSC.out.mono ?_
          rintro e w4 ⟨rfl, hb4⟩
          have HF4 := Lib.hid (fr_on HF3.out (FrB.of_below hb4))
          have HIN4 := Lib.hid (HIN3.out.below hb4)
          clear hb4 x0 x1 x2 x3 x4 x5
          cases hsc : secretC us a with
          | some x =>
            have HR : Hid (setC ⟨nm, rt, wb, sl, qu, us⟩ seen k v = .error 5) := Lib.hid (by rw [HSET.out, HUC4.out, if_pos (by rw [hsc]; rfl)]; rfl)
            simp only [secV]
            clear hsc
            go_wp2_with fail
            go_ret
            exact ⟨HF4.out, .inl ⟨5, HR.out, by decide, rfl⟩⟩
          | none =>
            have HUC5 := Lib.hid (HUC4.out.trans (if_neg (by rw [hsc]; decide)))
            have x5 : w4.cell? ⟨g, pre.length * 6 + 5, none⟩ = some (.slice Au us.length cu) := HIN4.out.cells 5 (by decide)
            simp only [secV]
            clear hsc HUC4
            by_cases e8 : us.length = 8
            · have b8 : ((us.length : Int) == 8) = true := by rw [beq_iff_eq]; omega
              have HR : Hid (setC ⟨nm, rt, wb, sl, qu, us⟩ seen k v = .error 3) := Lib.hid (by rw [HSET.out, HUC5.out, if_pos (by omega)]; rfl)
              clear e8
              go_wp2_with fail
              go_ret
              exact ⟨HF4.out, .inl ⟨3, HR.out, by decide, rfl⟩⟩
            · have b8 : ((us.length : Int) == 8) = false := by rw [beq_eq_false_iff_ne]; omega
              have HR : Hid (setC ⟨nm, rt, wb, sl, qu, us⟩ seen k v = .ok (⟨nm, rt, wb, sl, qu, us ++ [(a, b)]⟩, seen)) := Lib.hid (by rw [HSET.out, HUC5.out, if_neg (by omega)]; rfl)
              have hb5 := below_one w4 (.cells #[.string a, .string b] 54)
              have HIN5 := Lib.hid (HIN4.out.below hb5)
              have HF5 := Lib.hid (fr_on HF4.out (FrB.of_below hb5))
              have HSRC := Lib.hid (src_two w4 (.string a) (.string b) 54)
              have HLE := Lib.hid HIN5.out.le
              have HSZ := Lib.hid hb5.size
              obtain ⟨j0, hj0, hjz0, hjz1, hjz2⟩ := info_parts infoUser
              clear e8 hb5
              go_wp2_with (at_builtin; go_loud (refine wpList_append_own_at _ rfl (.tmp 109) (.tmp 113) 39 rfl bl 54 j0 (.agg #[.string ⟨#[]⟩, .string ⟨#[]⟩]) 2 32 Tryz.underlying39 hj0 hjz0 hjz1 hjz2 rfl (by decide) (.slice Au us.length cu) us.length (usC us) (by simp [Act.eval, Act.put]) HIN5.out.us ⟨w4.heap.size, 0, none⟩ 1 1 [.string a, .string b] (by simp [Act.eval, Act.put]) rfl HSRC.out (by simp [Value.oneCell']) (by unfold maxLen; omega) (by omega) HLE.out ?_; intro v6 w6 hown6 hg6 _ hrel6; obtain ⟨A6, c6, rfl⟩ := own_slice hown6; have hrow6 := (OffRow.of HIN5.out.us).other HIN5.out.row (by decide) hg6; have hsn6 := HIN5.out.seen.grown hg6 (by obtain ⟨es, ck, hm⟩ := HIN5.out.seen.isMap; exact (OffRow.of HIN5.out.us).ne hm); have HOWN := Lib.hid hown6; have x6 : w6.cell? ⟨g, pre.length * 6 + 5, none⟩ = some (.slice Au us.length cu) := (hrow6.cellAt (pre.length * 6 + 5) (by omega)).trans (last_cell pre _ 5 (by decide)); have f6 := hrow6.frozenAt (pre.length * 6 + 5); have HIN7 := Lib.hid (put_users (r' := ⟨⟨nm, rt, wb, sl, qu, us ++ [(a, b)]⟩, .slice A6 (us.length + 1) c6⟩) hrow6 hsn6 (by (rw [List.length_append, List.length_singleton, usC_snoc]; exact hown6)) (Nat.le_trans HLE.out hg6.size) HIN5.out.hbb HIN5.out.hsb rfl); have HF7 := Lib.hid (fr_on (fr_on HF5.out (FrB.of_grown hg6 (fun b hb _ => .inr (.inr hb)))) (fr_cell (j := pre.length * 6 + 5) (u := .slice A6 (us.length + 1) c6) w6)); have HREL := Lib.hid hrel6; clear hown6 hg6 hrow6 hsn6 hrel6))
              go_ret
              exact ⟨HF7.out, .inr ⟨_, _, _, HR.out, rfl, HIN7.out, fun b hb => by
                rcases HREL.out with e | e
                · exact .inl (e.symm.trans hb)
                · right
                  have : w4.heap.size + 1 = b := by
                    have h := e.symm.trans hb
                    simpa using h
                  have h2 := HF4.out.size
                  omega⟩⟩
/-- All of it. -/
theorem set_any (w0 : World) (bl g cap : Nat) (pre : List MRow) (r : MRow) (sb n : Nat) (seen : List ByteArray) (k v : ByteArray) (w : World) (hk : k.size ≤ 140737488351232) (hv : v.size ≤ 1000000) (hn : n ≤ 1000000) (hin : SetIn w w0.heap.size bl g cap pre r sb n seen) (hb0 : Below w0.heap.size w0 w) (hg : EnvC w0) (h8 : r.md.us.length ≤ 8) :
    Calls Tryz.prog 26 #[.pointer (some ⟨g, pre.length * 6, none⟩), .string k, .string v, .map (some sb)] w (MSetPost w0.heap.size bl g cap pre r sb n seen k v w) := by
  have hv2 : v.size ≤ 140737488351232 := by omega
  by_cases hu : k = kUser
  · exact set_user w0 bl g cap pre r sb n seen k v w hk hv hn hin hb0 hg h8 hu
  · cases hh : hasC seen k with
    | true => exact set_seen _ bl g cap pre r sb n seen k v w hk hin hu hh
    | false =>
      by_cases h1 : k = kRoot
      · exact set_root w0 bl g cap pre r sb n seen k v w hk hv2 hn hin hb0 hg hu hh h1
      · by_cases h2 : k = kWrite
        · exact set_write w0 bl g cap pre r sb n seen k v w hk hv2 hn hin hb0 hg hu hh h1 h2
        · by_cases h3 : k = kSlots
          · exact set_slots w0 bl g cap pre r sb n seen k v w hk hv2 hn hin hb0 hg hu hh h1 h2 h3
          · by_cases h4 : k = kQuota
            · exact set_quota w0 bl g cap pre r sb n seen k v w hk hv2 hn hin hb0 hg hu hh h1 h2 h3 h4
            · exact set_other w0 bl g cap pre r sb n seen k v w hk hv2 hn hin hb0 hg hu hh h1 h2 h3 h4
end Go.Proofs.YtddnfooachibiaaGreatDoor
