/-
  lock.meet, and the law's own common: have two lists of paths one in common, or two that clash?
-/
import Derived.Test.YtaaeobdihfbjfaaDoorSetBoth
set_option linter.unusedVariables false
set_option linter.unusedSimpArgs false
namespace Go.Proofs.YtaaeobdihfbjfaaDoor
open Go.RowKit
open Go.Proofs.YtaaeobdihfbjfaaDoorW.PrintWords (Kd ReadsRow)
def hitB (p q : ByteArray) : Bool := p.toList == q.toList || clashB p q
def meetB (xs ys : List ByteArray) : Bool := xs.any fun p => ys.any fun q => hitB p q
theorem meetB_row {xs ys : List ByteArray} {k : Nat} (hk : k < xs.length) (h : ys.any (hitB xs[k]) = true) : meetB xs ys = true := by
  unfold meetB
  exact List.any_eq_true.2 ⟨xs[k], List.getElem_mem hk, h⟩
theorem meetB_none {xs ys : List ByteArray} (h : ∀ k (hk : k < xs.length), ys.any (hitB xs[k]) = false) : meetB xs ys = false := by
  unfold meetB
  rw [List.any_eq_false]
  intro x hx
  obtain ⟨k, hk, rfl⟩ := List.getElem_of_mem hx
  have := h k hk
  simpa using this
theorem any_at {p : ByteArray} {ys : List ByteArray} {j : Nat} (hj : j < ys.length) (h : hitB p ys[j] = true) : ys.any (hitB p) = true := List.any_eq_true.2 ⟨_, List.getElem_mem hj, h⟩
theorem any_no {p : ByteArray} {ys : List ByteArray} (h : ∀ j (hj : j < ys.length), hitB p ys[j] = false) : ys.any (hitB p) = false := by
  rw [List.any_eq_false]
  intro x hx
  obtain ⟨k, hk, rfl⟩ := List.getElem_of_mem hx
  rw [h k hk]; simp
theorem ret_true' {b : Bool} (h : b = true) : Ending.returned (.bool true) = .returned (.bool b) := by rw [h]
theorem ret_false' {b : Bool} (h : b = false) : Ending.returned (.bool false) = .returned (.bool b) := by rw [h]
set_option maxRecDepth 100000 in
set_option maxHeartbeats 4000000 in
theorem common_any (A B : Option Addr) (c d : Nat) (xs ys : List ByteArray) (w : World) (hx : TextRow w A xs) (hy : TextRow w B ys) (hxs : ∀ s ∈ xs, s.size ≤ 140737488351232) (hys : ∀ s ∈ ys, s.size ≤ 140737488351232) (hxl : xs.length ≤ 1000) (hyl : ys.length ≤ 1000) :
    Calls Tryd.prog 21 #[.slice A xs.length c, .slice B ys.length d] w fun e w' => e = .returned (.bool (meetB xs ys)) ∧ w' = w := by
  have HX := Lib.hid hx
  have HY := Lib.hid hy
  have HXS := Lib.hid hxs
  have HYS := Lib.hid hys
  clear hx hy hxs hys
  go_enter Tryd.func21, Tryd.ntmps21
  go_wp2_with fail
  go_loop [11] (fun i => ∃ k : Nat, k ≤ xs.length ∧ i = .int .i64 k ∧ ∀ j (hj : j < xs.length), j < k → ys.any (hitB xs[j]) = false) (fun i => xs.length - (intOf i).toNat)
  case atStart => exact ⟨0, by omega, rfl, fun j hj h => by omega⟩
  case round =>
    obtain ⟨k, hk, rfl, hno⟩ := hrel
    have HNO := Lib.hid hno
    clear hno
    by_cases hlt : k < xs.length
    · obtain ⟨x, hxe⟩ : ∃ x, x = xs[k] := ⟨_, rfl⟩
      obtain ⟨ad, rfl, hT⟩ := HX.out (by omega)
      have hcx := hT k hlt
      rw [← hxe] at hcx
      have hxz := HXS.out x (hxe ▸ List.getElem_mem hlt)
      have HXE := Lib.hid hxe
      clear hT hxe
      go_wp2_with fail
      go_loop [17] (fun i => ∃ j : Nat, j ≤ ys.length ∧ i = .int .i64 j ∧ ∀ m (hm : m < ys.length), m < j → hitB x ys[m] = false) (fun i => ys.length - (intOf i).toNat)
      case atStart => exact ⟨0, by omega, rfl, fun j hj h => by omega⟩
      case round =>
        obtain ⟨j, hj, rfl, hn2⟩ := hrel
        have HN2 := Lib.hid hn2
        clear hn2
        by_cases hjl : j < ys.length
        · obtain ⟨y, hye⟩ : ∃ y, y = ys[j] := ⟨_, rfl⟩
          obtain ⟨bd, rfl, hT⟩ := HY.out (by omega)
          have hcy := hT j hjl
          rw [← hye] at hcy
          have hyz := HYS.out y (hye ▸ List.getElem_mem hjl)
          have HYE := Lib.hid hye
          have HCL := Lib.hid (fun W => clash_any x y W hxz hyz)
          clear hT hye
          cases b1 : (x.toList == y.toList) with
          | true =>
            have HR := Lib.hid (meetB_row (ys := ys) hlt (by rw [← HXE.out]; exact any_at hjl (by rw [← HYE.out]; unfold hitB; rw [b1]; rfl)))
            go_wp2_with fail
            go_ret
            exact ⟨ret_true' HR.out, rfl⟩
          | false =>
            cases b2 : clashB x y with
            | true =>
              have HR := Lib.hid (meetB_row (ys := ys) hlt (by rw [← HXE.out]; exact any_at hjl (by rw [← HYE.out]; unfold hitB; rw [b1, b2]; rfl)))
              go_wp2_with fail
              refine (HCL.out _).mono ?_
              rw [b2]
              rintro e w2 ⟨rfl, rfl⟩
              go_wp2_with fail
              go_ret
              exact ⟨ret_true' HR.out, rfl⟩
            | false =>
              have HH : Hid (hitB x y = false) := Lib.hid (by unfold hitB; rw [b1, b2]; rfl)
              go_wp2_with fail
              refine (HCL.out _).mono ?_
              rw [b2]
              rintro e w2 ⟨rfl, rfl⟩
              go_wp2_with fail
              go_round
              case rel => exact ⟨j + 1, by omega, by go_num, fun m hm h => by
                by_cases e : m = j
                · subst e; rw [← HYE.out]; exact HH.out
                · exact HN2.out m hm (by omega)⟩
              case measure => simp [intOf]; omega
        · have HA := Lib.hid (any_no (ys := ys) (p := x) (fun m hm => HN2.out m hm (by omega)))
          obtain rfl : j = ys.length := by omega
          go_wp2_with fail
          go_round
          case rel => exact ⟨k + 1, by omega, by go_num, fun m hm h => by
            by_cases e : m = k
            · subst e; rw [← HXE.out]; exact HA.out
            · exact HNO.out m hm (by omega)⟩
          case measure => simp [intOf]; omega
    · have HR := Lib.hid (meetB_none (ys := ys) (fun m hm => HNO.out m hm (by omega)))
      obtain rfl : k = xs.length := by omega
      go_wp2
      go_ret
      exact ⟨ret_false' HR.out, rfl⟩
set_option maxRecDepth 100000 in
set_option maxHeartbeats 4000000 in
theorem meet_any (a0 b0 : Int) (fa fb : Bool) (A B : Option Addr) (c d : Nat) (xs ys : List ByteArray) (w : World) (hx : TextRow w A xs) (hy : TextRow w B ys) (hxs : ∀ s ∈ xs, s.size ≤ 140737488351232) (hys : ∀ s ∈ ys, s.size ≤ 140737488351232) (hxl : xs.length ≤ 1000) (hyl : ys.length ≤ 1000) :
    Calls Tryd.prog 81 #[.agg #[.int .i64 a0, .slice A xs.length c, .bool fa], .agg #[.int .i64 b0, .slice B ys.length d, .bool fb]] w fun e w' => e = .returned (.bool (meetB xs ys)) ∧ Below w.heap.size w w' := by
  have b2w := below_two w (.cells #[.int .i64 a0, .slice A xs.length c, .bool fa] 116) (.cells #[.int .i64 b0, .slice B ys.length d, .bool fb] 116)
  have HX := Lib.hid (hx.below b2w)
  have HY := Lib.hid (hy.below b2w)
  clear b2w
  have HXS := Lib.hid hxs
  have HYS := Lib.hid hys
  clear hx hy hxs hys
  go_enter Tryd.func81, Tryd.ntmps81
  go_wp2_with fail
  go_loop [12] (fun i => ∃ k : Nat, k ≤ xs.length ∧ i = .int .i64 k ∧ ∀ j (hj : j < xs.length), j < k → ys.any (hitB xs[j]) = false) (fun i => xs.length - (intOf i).toNat)
  case atStart => exact ⟨0, by omega, rfl, fun j hj h => by omega⟩
  case round =>
    obtain ⟨k, hk, rfl, hno⟩ := hrel
    have HNO := Lib.hid hno
    clear hno
    by_cases hlt : k < xs.length
    · obtain ⟨x, hxe⟩ : ∃ x, x = xs[k] := ⟨_, rfl⟩
      obtain ⟨ad, rfl, hT⟩ := HX.out (by omega)
      have hcx := hT k hlt
      rw [← hxe] at hcx
      have hxz := HXS.out x (hxe ▸ List.getElem_mem hlt)
      have HXE := Lib.hid hxe
      clear hT hxe
      go_wp2_with fail
      go_loop [19] (fun i => ∃ j : Nat, j ≤ ys.length ∧ i = .int .i64 j ∧ ∀ m (hm : m < ys.length), m < j → hitB x ys[m] = false) (fun i => ys.length - (intOf i).toNat)
      case atStart => exact ⟨0, by omega, rfl, fun j hj h => by omega⟩
      case round =>
        obtain ⟨j, hj, rfl, hn2⟩ := hrel
        have HN2 := Lib.hid hn2
        clear hn2
        by_cases hjl : j < ys.length
        · obtain ⟨y, hye⟩ : ∃ y, y = ys[j] := ⟨_, rfl⟩
          obtain ⟨bd, rfl, hT⟩ := HY.out (by omega)
          have hcy := hT j hjl
          rw [← hye] at hcy
          have hyz := HYS.out y (hye ▸ List.getElem_mem hjl)
          have HYE := Lib.hid hye
          have HCL := Lib.hid (fun W => clash_any x y W hxz hyz)
          clear hT hye
          cases b1 : (x.toList == y.toList) with
          | true =>
            have HR := Lib.hid (meetB_row (ys := ys) hlt (by rw [← HXE.out]; exact any_at hjl (by rw [← HYE.out]; unfold hitB; rw [b1]; rfl)))
            go_wp2_with fail
            go_ret
            exact ⟨ret_true' HR.out, below_two w _ _⟩
          | false =>
            cases b2 : clashB x y with
            | true =>
              have HR := Lib.hid (meetB_row (ys := ys) hlt (by rw [← HXE.out]; exact any_at hjl (by rw [← HYE.out]; unfold hitB; rw [b1, b2]; rfl)))
              go_wp2_with fail
              refine (HCL.out _).mono ?_
              rw [b2]
              rintro e w2 ⟨rfl, rfl⟩
              go_wp2_with fail
              go_ret
              exact ⟨ret_true' HR.out, below_two w _ _⟩
            | false =>
              have HH : Hid (hitB x y = false) := Lib.hid (by unfold hitB; rw [b1, b2]; rfl)
              go_wp2_with fail
              refine (HCL.out _).mono ?_
              rw [b2]
              rintro e w2 ⟨rfl, rfl⟩
              go_wp2_with fail
              go_round
              case rel => exact ⟨j + 1, by omega, by go_num, fun m hm h => by
                by_cases e : m = j
                · subst e; rw [← HYE.out]; exact HH.out
                · exact HN2.out m hm (by omega)⟩
              case measure => simp [intOf]; omega
        · have HA := Lib.hid (any_no (ys := ys) (p := x) (fun m hm => HN2.out m hm (by omega)))
          obtain rfl : j = ys.length := by omega
          go_wp2_with fail
          go_round
          case rel => exact ⟨k + 1, by omega, by go_num, fun m hm h => by
            by_cases e : m = k
            · subst e; rw [← HXE.out]; exact HA.out
            · exact HNO.out m hm (by omega)⟩
          case measure => simp [intOf]; omega
    · have HR := Lib.hid (meetB_none (ys := ys) (fun m hm => HNO.out m hm (by omega)))
      obtain rfl : k = xs.length := by omega
      go_wp2
      go_ret
      exact ⟨ret_false' HR.out, below_two w _ _⟩
end Go.Proofs.YtaaeobdihfbjfaaDoor
