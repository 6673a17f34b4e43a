/-
  The law PathShort, walked.
-/
import Derived.Test.YtkhnfepnapgfaaaDoorPathHead
import Derived.Test.YtkhnfepnapgfaaaDoorPathJoinsW
import Derived.BigFrame
import Derived.Test.YtkhnfepnapgfaaaDoorPathPlain
import Derived.Test.YtkhnfepnapgfaaaDoorShelf
import Derived.WalkKit
import Derived.Outline
import Derived.LaidEql
import Derived.Below
import Derived.WalkLawsBesides
import Derived.WalkSpells
import Derived.Deep.QuietTactic
import Derived.BigQuiet
import Derived.Deep.LoopGhost
import Derived.Lib.Hide
set_option linter.unusedVariables false
set_option linter.unusedSimpArgs false
namespace Go.Proofs.YtkhnfepnapgfaaaDoor
open Go.RowKit

/-- What isn't a path beside one. -/
def spoilt (s : ByteArray) : List ByteArray := [⟨#[47]⟩ ++ s, s ++ ⟨#[47]⟩, ⟨#[46, 47]⟩ ++ s, s ++ ⟨#[47, 46, 46]⟩, ⟨#[46, 46, 47]⟩ ++ s, s ++ ⟨#[47, 46]⟩]
theorem spoilt_bad (s : ByteArray) : ∀ x ∈ spoilt s, ∃ q, checkB x = some q := by
  intro x hx
  simp only [spoilt, List.mem_cons, List.mem_nil_iff, or_false] at hx
  rcases hx with rfl | rfl | rfl | rfl | rfl | rfl
  · exact bad_front [] (by decide) (by decide) (s := s) (by rw [app_data]; simp)
  · exact bad_back [] (by decide) (by decide) (s := s) (by rw [app_data])
  · exact bad_front [46] (by decide) (by decide) (s := s) (by rw [app_data]; simp)
  · exact bad_back [46, 46] (by decide) (by decide) (s := s) (by rw [app_data])
  · exact bad_front [46, 46] (by decide) (by decide) (s := s) (by rw [app_data]; simp)
  · exact bad_back [46] (by decide) (by decide) (s := s) (by rw [app_data])
theorem spoilt_size (s : ByteArray) (hs : s.size ≤ 64) : ∀ x ∈ spoilt s, x.size ≤ 140737488351232 := by
  intro x hx
  simp only [spoilt, List.mem_cons, List.mem_nil_iff, or_false] at hx
  rcases hx with rfl | rfl | rfl | rfl | rfl | rfl <;> (rw [ByteArray.size_append]; have : ∀ b : Array UInt8, (⟨b⟩ : ByteArray).size = b.size := fun _ => rfl; simp only [this]; simp; omega)
/-- The cells of the six. -/
def SixAt (w : World) (g : Nat) (s : ByteArray) : Prop := ∀ k (h : k < (spoilt s).length), w.cell? ⟨g, k, none⟩ = some (.string (spoilt s)[k])
theorem sixAt_start (w : World) (s : ByteArray) : SixAt (w.alloc (.cells #[.string (⟨#[47]⟩ ++ s), .string (s ++ ⟨#[47]⟩), .string (⟨#[46, 47]⟩ ++ s), .string (s ++ ⟨#[47, 46, 46]⟩), .string (⟨#[46, 46, 47]⟩ ++ s), .string (s ++ ⟨#[47, 46]⟩)] 9)) w.heap.size s := by
  intro k h
  have h6 : k < 6 := h
  rw [World.cell?_alloc_at _ _ _ _ rfl]
  have : k = 0 ∨ k = 1 ∨ k = 2 ∨ k = 3 ∨ k = 4 ∨ k = 5 := by omega
  rcases this with rfl | rfl | rfl | rfl | rfl | rfl <;> rfl
theorem SixAt.below {w w' : World} {g : Nat} {s : ByteArray} (h : SixAt w g s) (hb : Below w.heap.size w w') : SixAt w' g s := fun k hk => cell_below hb (h k hk)
set_option maxRecDepth 100000 in
set_option maxHeartbeats 2000000 in
theorem pathShort_both (a s : ByteArray) (w : World) (ha : checkB a = none) (hs : checkB s = none) (hg : Env w) : Calls Tryd.prog 8 #[.string a, .string s] w fun e w' => e = .returned (.bool true) ∧ Below w.heap.size w w' := by
  have HK := Lib.hid (checks_any w hg)
  have HG := Lib.hid hg
  have za := (checkB_none a).1 ha
  have zs := (checkB_none s).1 hs
  have za2 : a.size ≤ 64 := za.2.1
  have zs2 : s.size ≤ 64 := zs.2.1
  have za1 : 1 ≤ a.size := za.1
  have HA := Lib.hid ha
  have HS := Lib.hid hs
  clear hg ha hs za zs
  go_enter Tryd.func8, Tryd.ntmps8
  go_wp2_with fail
  refine HK.out.mono ?_
  rintro e w1 ⟨rfl, hb1⟩
  have HG1 := Lib.hid (HG.out.below hb1)
  go_wp2_with fail
  refine (check_ok s w1 (by omega) HG1.out.ml HS.out).mono ?_
  rintro e w2 ⟨rfl, hb2⟩
  have HG2 := Lib.hid (HG1.out.below hb2)
  go_wp2_with fail
  refine (check_ok a w2 (by omega) HG2.out.ml HA.out).mono ?_
  rintro e w3 ⟨rfl, hb3⟩
  have HG3 := Lib.hid (HG2.out.below hb3)
  have HB3 := Lib.hid (below_from (below_from hb1 hb2) hb3)
  clear hb1 hb2 hb3
  go_wp2_with fail
  go_loopw [22] (fun i wr => ∃ k : Nat, k ≤ s.size ∧ i = .int .i64 k ∧ Below w3.heap.size w3 wr) (fun i _ => s.size - (intOf i).toNat)
  case atStart => exact ⟨0, by omega, rfl, Below.refl _ _⟩
  case round =>
    obtain ⟨k, hk, rfl, hb⟩ := hrel
    have HGr := Lib.hid (HG3.out.below hb)
    by_cases hlt : k < s.size
    · cases h47 : ((s[k].toNat : Int) == 47) with
      | true =>
        have h470 : s[k] = 47 := UInt8.toNat_inj.1 (by have := beq_iff_eq.1 h47; simp; omega)
        have HC := Lib.hid (path_short HS.out hlt h470)
        have hz : (s.extract 0 k).size ≤ 140737488351232 := by rw [ByteArray.size_extract]; omega
        clear h470
        go_wp2_with fail
        refine (check_ok (s.extract 0 k) _ hz HGr.out.ml HC.out).mono ?_
        rintro e w4 ⟨rfl, hb4⟩
        go_wp2
        go_roundw
        case rel => exact ⟨k + 1, by omega, by go_num, below_from hb hb4⟩
        case measure => simp [intOf]; omega
      | false =>
        go_wp2
        go_roundw
        case rel => exact ⟨k + 1, by omega, by go_num, hb⟩
        case measure => simp [intOf]; omega
    · have hk2 : s.size ≤ k := by omega
      have hd : decide (k < s.size) = false := by simp; omega
      clear hlt
      go_wp2_with fail
      obtain ⟨wo, hwo⟩ : ∃ wo : World, wo = wr := ⟨_, rfl⟩
      subst hwo
      have HW := Lib.hid hb
      clear hb hk hk2
      go_loopw [51] (fun i W => ∃ j : Nat, j ≤ 6 ∧ i = .int .i64 j ∧ Below wo.heap.size wo W ∧ SixAt W wo.heap.size s) (fun i _ => 6 - (intOf i).toNat)
      case atStart => exact ⟨0, by omega, rfl, below_one _ _, sixAt_start wo s⟩
      case round =>
        obtain ⟨j, hj, rfl, hbW, hsix⟩ := hrel
        have HX := Lib.hid hsix
        have HGw := Lib.hid (HGr.out.below hbW)
        clear hsix
        by_cases hlt : j < 6
        · have hj6 : j < (spoilt s).length := hlt
          obtain ⟨x, hx⟩ : ∃ x, x = (spoilt s)[j] := ⟨_, rfl⟩
          have hcell := HX.out j hj6
          rw [← hx] at hcell
          have hmem : x ∈ spoilt s := hx ▸ List.getElem_mem hj6
          obtain ⟨q, hq⟩ := spoilt_bad s x hmem
          have hz := spoilt_size s zs2 x hmem
          have HQ := Lib.hid hq
          clear hx hmem hq hj6
          go_wp2_with fail
          refine (check_bad x q _ hz HGw.out.ml HQ.out).mono ?_
          rintro e w5 ⟨f, rfl, hf, hb5⟩
          clear hf
          go_wp2
          go_roundw
          case rel => first | exact ⟨j + 1, by omega, by go_num, below_from hbW hb5, HX.out.below hb5⟩ | ((repeat apply Exists.intro); exact ⟨⟨j + 1, by omega, by go_num, below_from hbW hb5, HX.out.below hb5⟩, rfl⟩)
          case measure => simp [intOf]; omega
        · have hj6 : 6 ≤ j := by omega
          have s1 : a.size + 1 ≤ 9223372036854775807 := by omega
          have he : a.toList.isEmpty = false := by rw [ByteArray.toList_eq, ← Bool.not_eq_true, List.isEmpty_iff_length_eq_zero, size_len]; omega
          have hx1 := hasPrefix_slash (a ++ ⟨#[47]⟩ ++ s) a
          rw [join_hasP] at hx1
          have HP := Lib.hid hx1
          have hz : ((a ++ (⟨#[47]⟩ : ByteArray) ++ s).size : Int) = (a.size : Int) + 1 + s.size := by rw [join_size]; omega
          have HB := Lib.hid (below_from HB3.out (below_from HW.out hbW))
          clear hbW hlt hj hx1
          cases hc : checkB (joinB a s) with
          | none =>
            have hjn := join_ok a s _ (by omega) (by omega) (by omega) HGw.out.ml hc
            rw [joinB_root he] at hjn
            have HJ := Lib.hid hjn
            clear hjn hc
            go_wp2_with fail
            refine HJ.out.mono ?_
            rintro e w6 ⟨rfl, hb6⟩
            go_wp2_with fail
            refine (HP.out _).mono ?_
            rintro e w6 ⟨rfl, rfl⟩
            go_wp2
            go_ret
            exact ⟨rfl, below_from HB.out hb6⟩
          | some q =>
            have HJ := Lib.hid (join_bad a s q _ (by omega) (by omega) (by omega) HGw.out.ml hc)
            clear hc
            go_wp2_with fail
            refine HJ.out.mono ?_
            rintro e w6 ⟨f, rfl, hf, hb6⟩
            clear hf
            go_wp2
            go_ret
            exact ⟨rfl, below_from HB.out hb6⟩
set_option maxRecDepth 100000 in
set_option maxHeartbeats 2000000 in
theorem pathShort_walk (a s : ByteArray) (w : World) (ha : a.size ≤ 140737488351232) (hs : s.size ≤ 140737488351232) (hg : Env w) : Calls Tryd.prog 8 #[.string a, .string s] w fun e w' => e = .returned (.bool true) ∧ Below w.heap.size w w' := by
  cases hcs : checkB s with
  | some q =>
    have HK := Lib.hid (checks_any w hg)
    have HG := Lib.hid hg
    have HS := Lib.hid hcs
    clear hg hcs
    go_enter Tryd.func8, Tryd.ntmps8
    go_wp2_with fail
    refine HK.out.mono ?_
    rintro e w1 ⟨rfl, hb1⟩
    have HG1 := Lib.hid (HG.out.below hb1)
    go_wp2_with fail
    refine (check_bad s q w1 hs HG1.out.ml HS.out).mono ?_
    rintro e w2 ⟨f, rfl, hf, hb2⟩
    clear hf
    go_wp2
    go_ret
    exact ⟨rfl, below_from hb1 hb2⟩
  | none =>
    cases hca : checkB a with
    | none => exact pathShort_both a s w hca hcs hg
    | some q =>
      have HK := Lib.hid (checks_any w hg)
      have HG := Lib.hid hg
      have HS := Lib.hid hcs
      have HA := Lib.hid hca
      clear hg hcs hca
      go_enter Tryd.func8, Tryd.ntmps8
      go_wp2_with fail
      refine HK.out.mono ?_
      rintro e w1 ⟨rfl, hb1⟩
      have HG1 := Lib.hid (HG.out.below hb1)
      go_wp2_with fail
      refine (check_ok s w1 hs HG1.out.ml HS.out).mono ?_
      rintro e w2 ⟨rfl, hb2⟩
      have HG2 := Lib.hid (HG1.out.below hb2)
      go_wp2_with fail
      refine (check_bad a q w2 ha HG2.out.ml HA.out).mono ?_
      rintro e w3 ⟨f, rfl, hf, hb3⟩
      clear hf
      go_wp2
      go_ret
      exact ⟨rfl, below_from (below_from hb1 hb2) hb3⟩
end Go.Proofs.YtkhnfepnapgfaaaDoor
