/-
  The law ConfWrites holds for every input: the row and its card, out of the walk; taking of the package-level variables just what the card ties.
-/
import Derived.Test.YtddnfooachibiaaGreatDoorConfDigits
import Derived.Test.YtddnfooachibiaaGreatDoorConfRefP
import Derived.Test.YtddnfooachibiaaGreatDoorConfLike
import Derived.Test.YtddnfooachibiaaGreatDoorConfTextW
import Derived.Test.YtddnfooachibiaaGreatDoorCards
import Derived.Test.YtddnfooachibiaaGreatDoorTie
import Derived.Test.YtddnfooachibiaaGreatDoorRowKitC
import Derived.SevenTiedAt
import Derived.SizedLaws
set_option linter.unusedVariables false
set_option linter.unusedSimpArgs false
namespace Go.Proofs.YtddnfooachibiaaGreatDoor
open Go.RowKit Go.Maps Go.WideMaps Go.WideAt
theorem digits_int {n : Int} (h0 : 0 ≤ n) (h1 : n ≤ 262144) (W : World) : Calls Tryz.prog 40 #[.int .i64 n] W fun e w' => e = .returned (.string (bA (Lib.itoa n))) ∧ Below W.heap.size W w' := by
  obtain ⟨u, rfl⟩ : ∃ u : Nat, n = u := ⟨n.toNat, by omega⟩
  rw [Lib.itoa_nonneg]
  exact digits_any 5 u W (by omega) (by decide)
set_option maxRecDepth 100000 in
set_option maxHeartbeats 2000000 in
theorem rtext_any (A : Option Addr) (c : Nat) (q : List RMRow) (w : World) (hl : q.length ≤ 8) (hsm : ∀ r ∈ q, SmallM r.md) (hq : RModsIn w (.slice A q.length c) q) : Calls Tryz.prog 20 #[.slice A q.length c] w fun e w' => e = .returned (.string (bA (textC (q.map RMRow.md)))) ∧ Below w.heap.size w w' := by
  have HQ := Lib.hid hq
  have HSM := Lib.hid hsm
  have hml : (q.map RMRow.md).length = q.length := by simp
  have HMS : Hid (∀ j (hj : j < q.length), (q.map RMRow.md)[j]'(by simpa using hj) = q[j].md) := Lib.hid (fun j hj => by simp)
  obtain ⟨ms, hms⟩ : ∃ ms, ms = q.map RMRow.md := ⟨_, rfl⟩
  rw [← hms] at hml ⊢
  have HM : Hid (∀ j (hj : j < q.length) (hj2 : j < ms.length), ms[j] = q[j].md) := Lib.hid (fun j hj hj2 => by subst hms; exact HMS.out j hj)
  have HFEW : Hid (∀ k, (textC (ms.take k)).length ≤ 32000) := Lib.hid (fun k => by
    have h1 := textC_few (ms.take k) (fun m hm => by
      have := List.mem_of_mem_take hm
      rw [hms] at this
      obtain ⟨r, hr, rfl⟩ := List.mem_map.1 this
      exact hsm r hr)
    have h2 : (ms.take k).length ≤ 8 := by rw [List.length_take]; omega
    omega)
  clear hq hsm hms HMS
  go_enter Tryz.func20, Tryz.ntmps20
  go_wp2_with fail
  go_loopw [3, 4, 5, 6, 7] (fun ov i _ _ _ wr => ∃ (k : Nat) (t : ByteArray), k ≤ q.length ∧ i = .int .i64 k ∧ ov = .string t ∧ t = bA (textC (ms.take k)) ∧ Below w.heap.size w wr) (fun _ i _ _ _ _ => q.length - (intOf i).toNat)
  case atStart => exact ⟨0, ⟨#[]⟩, by omega, rfl, rfl, rfl, Below.refl _ _⟩
  case round =>
    obtain ⟨k, t, hk, rfl, rfl, ht, hbw⟩ := hrel
    obtain ⟨wk, rfl⟩ : ∃ W, W = wr := ⟨wr, rfl⟩
    have HB := Lib.hid hbw
    have htz : t.size ≤ 32000 := by rw [ht, bA_size]; exact HFEW.out k
    have HT := Lib.hid ht
    clear ht
    by_cases hlt : k < q.length
    · rcases hmd : q[k].md with ⟨nm, rt, wb, sl, qu, us⟩
      obtain ⟨c3, b, off, Au, cu, As, ls, cs, e3, ⟨x0, x1, x2, x3, x4, x5, x6⟩, hu⟩ := RModsIn.one HQ.out k hlt hmd
      injection e3 with e3 hz1 hz2
      clear hz1
      subst e3 hz2
      replace x0 := cell_below hbw x0
      replace x1 := cell_below hbw x1
      replace x2 := cell_below hbw x2
      replace x3 := cell_below hbw x3
      replace x4 := cell_below hbw x4
      replace x5 := cell_below hbw x5
      replace x6 := cell_below hbw x6
      have hsm := HSM.out _ (List.getElem_mem hlt)
      rw [hmd] at hsm
      have hnz : nm.size ≤ 100 := hsm.name
      have hrz : rt.size ≤ 200 := hsm.root
      have HUS := Lib.hid hsm.us
      have hun : us.length ≤ 8 := hsm.most
      have hi1 := itoa_len hsm.sl.1 hsm.sl.2
      have hi2 := itoa_len hsm.qu.1 hsm.qu.2
      have HI1 := Lib.hid (fun W => digits_int hsm.sl.1 hsm.sl.2 W)
      have HI2 := Lib.hid (fun W => digits_int hsm.qu.1 hsm.qu.2 W)
      simp only at HI1 HI2
      have HU := Lib.hid hu
      have HEQ : Hid (textC (ms.take (k + 1)) = textC (ms.take k) ++ modT ⟨nm, rt, wb, sl, qu, us⟩) := Lib.hid (by rw [textC_take (by omega), HM.out k hlt (by omega), hmd])
      obtain ⟨i1, hi1e⟩ : ∃ x, x = bA (Lib.itoa sl) := ⟨_, rfl⟩
      obtain ⟨i2, hi2e⟩ : ∃ x, x = bA (Lib.itoa qu) := ⟨_, rfl⟩
      have hz1 : i1.size ≤ 6 := by rw [hi1e, bA_size]; exact hi1
      have hz2 : i2.size ≤ 6 := by rw [hi2e, bA_size]; exact hi2
      have HL1 : Hid (i1.data.toList = Lib.itoa sl) := Lib.hid (by rw [hi1e]; rfl)
      have HL2 : Hid (i2.data.toList = Lib.itoa qu) := Lib.hid (by rw [hi2e]; rfl)
      rw [← hi1e] at HI1
      rw [← hi2e] at HI2
      obtain ⟨yn, hyn⟩ : ∃ y : ByteArray, y = if wb then ⟨#[121, 101, 115]⟩ else ⟨#[110, 111]⟩ := ⟨_, rfl⟩
      have hyz : yn.size ≤ 3 := by rw [hyn]; split <;> decide
      have HYN := Lib.hid hyn
      obtain ⟨W1, hW1⟩ : ∃ W, W = wk.alloc (.cells #[.string nm, .string rt, .bool wb, .int .i64 sl, .int .i64 qu, .slice Au us.length cu, .slice As ls cs] 45) := ⟨_, rfl⟩
      have hm1 : W1.heap[wk.heap.size]? = some (Obj.cells #[.string nm, .string rt, .bool wb, .int .i64 sl, .int .i64 qu, .slice Au us.length cu, .slice As ls cs] 45 (0, 0)) := by rw [hW1]; exact heap_alloc_new wk _
      have hbk : Below wk.heap.size wk W1 := by rw [hW1]; exact below_one wk _
      obtain ⟨g, hg⟩ : ∃ g, g = wk.heap.size := ⟨_, rfl⟩
      rw [← hg] at hm1
      have y2 : W1.cell? ⟨g, 2, none⟩ = some (.bool wb) := by rw [cell_of_row _ _ 2 _ _ _ hm1]; rfl
      have HM1 := Lib.hid hm1
      have HB1 := Lib.hid (below_from hbw hbk)
      clear hsm hi1 hi2 hu hmd hbw hm1 hbk hi1e hi2e hyn
      go_upto_if 19 with fail
      rw [← hW1, ← hg]
      clear hW1 hg x0 x1 x2 x3 x4 x5 x6
      go_cut [6] from 18 to 19 (fun yv wc => yv = .string yn ∧ wc = W1)
      case first =>
        cases wb
        all_goals
          go_wp2_with fail
          go_meet
          case rel => exact ⟨by rw [HYN.out]; rfl, by first | exact True.intro | rfl⟩
      case rest =>
      obtain ⟨rfl, rfl⟩ := hcut
      obtain ⟨W1, rfl⟩ : ∃ W, W = wc := ⟨wc, rfl⟩
      have z0 : (⟨#[91]⟩ : ByteArray).size = 1 := rfl
      have z1 : (⟨#[93, 10, 114, 111, 111, 116, 32, 61, 32]⟩ : ByteArray).size = 9 := rfl
      have z2 : (⟨#[10, 119, 114, 105, 116, 101, 32, 61, 32]⟩ : ByteArray).size = 9 := rfl
      have z3 : (⟨#[10, 115, 108, 111, 116, 115, 32, 61, 32]⟩ : ByteArray).size = 9 := rfl
      have z4 : (⟨#[10, 113, 117, 111, 116, 97, 32, 61, 32]⟩ : ByteArray).size = 9 := rfl
      have z5 : (⟨#[10]⟩ : ByteArray).size = 1 := rfl
      have d0 : ∀ W : World, (Op.stringOp BinOp.add (⟨#[91]⟩) (nm)).run Tryz.prog W = .ok (.string ((⟨#[91]⟩ : ByteArray) ++ nm)) W := fun W => run_string_add_sum W _ _ (by first | omega | (simp only [ByteArray.size_append]; omega))
      have d1 : ∀ W : World, (Op.stringOp BinOp.add (⟨#[91]⟩ ++ nm) (⟨#[93, 10, 114, 111, 111, 116, 32, 61, 32]⟩)).run Tryz.prog W = .ok (.string ((⟨#[91]⟩ ++ nm : ByteArray) ++ ⟨#[93, 10, 114, 111, 111, 116, 32, 61, 32]⟩)) W := fun W => run_string_add_sum W _ _ (by first | omega | (simp only [ByteArray.size_append]; omega))
      have d2 : ∀ W : World, (Op.stringOp BinOp.add (⟨#[91]⟩ ++ nm ++ ⟨#[93, 10, 114, 111, 111, 116, 32, 61, 32]⟩) (rt)).run Tryz.prog W = .ok (.string ((⟨#[91]⟩ ++ nm ++ ⟨#[93, 10, 114, 111, 111, 116, 32, 61, 32]⟩ : ByteArray) ++ rt)) W := fun W => run_string_add_sum W _ _ (by first | omega | (simp only [ByteArray.size_append]; omega))
      have d3 : ∀ W : World, (Op.stringOp BinOp.add (⟨#[91]⟩ ++ nm ++ ⟨#[93, 10, 114, 111, 111, 116, 32, 61, 32]⟩ ++ rt) (⟨#[10, 119, 114, 105, 116, 101, 32, 61, 32]⟩)).run Tryz.prog W = .ok (.string ((⟨#[91]⟩ ++ nm ++ ⟨#[93, 10, 114, 111, 111, 116, 32, 61, 32]⟩ ++ rt : ByteArray) ++ ⟨#[10, 119, 114, 105, 116, 101, 32, 61, 32]⟩)) W := fun W => run_string_add_sum W _ _ (by first | omega | (simp only [ByteArray.size_append]; omega))
      have d4 : ∀ W : World, (Op.stringOp BinOp.add (⟨#[91]⟩ ++ nm ++ ⟨#[93, 10, 114, 111, 111, 116, 32, 61, 32]⟩ ++ rt ++ ⟨#[10, 119, 114, 105, 116, 101, 32, 61, 32]⟩) (yn)).run Tryz.prog W = .ok (.string ((⟨#[91]⟩ ++ nm ++ ⟨#[93, 10, 114, 111, 111, 116, 32, 61, 32]⟩ ++ rt ++ ⟨#[10, 119, 114, 105, 116, 101, 32, 61, 32]⟩ : ByteArray) ++ yn)) W := fun W => run_string_add_sum W _ _ (by first | omega | (simp only [ByteArray.size_append]; omega))
      have d5 : ∀ W : World, (Op.stringOp BinOp.add (⟨#[91]⟩ ++ nm ++ ⟨#[93, 10, 114, 111, 111, 116, 32, 61, 32]⟩ ++ rt ++ ⟨#[10, 119, 114, 105, 116, 101, 32, 61, 32]⟩ ++ yn) (⟨#[10, 115, 108, 111, 116, 115, 32, 61, 32]⟩)).run Tryz.prog W = .ok (.string ((⟨#[91]⟩ ++ nm ++ ⟨#[93, 10, 114, 111, 111, 116, 32, 61, 32]⟩ ++ rt ++ ⟨#[10, 119, 114, 105, 116, 101, 32, 61, 32]⟩ ++ yn : ByteArray) ++ ⟨#[10, 115, 108, 111, 116, 115, 32, 61, 32]⟩)) W := fun W => run_string_add_sum W _ _ (by first | omega | (simp only [ByteArray.size_append]; omega))
      have d6 : ∀ W : World, (Op.stringOp BinOp.add (⟨#[91]⟩ ++ nm ++ ⟨#[93, 10, 114, 111, 111, 116, 32, 61, 32]⟩ ++ rt ++ ⟨#[10, 119, 114, 105, 116, 101, 32, 61, 32]⟩ ++ yn ++ ⟨#[10, 115, 108, 111, 116, 115, 32, 61, 32]⟩) (i1)).run Tryz.prog W = .ok (.string ((⟨#[91]⟩ ++ nm ++ ⟨#[93, 10, 114, 111, 111, 116, 32, 61, 32]⟩ ++ rt ++ ⟨#[10, 119, 114, 105, 116, 101, 32, 61, 32]⟩ ++ yn ++ ⟨#[10, 115, 108, 111, 116, 115, 32, 61, 32]⟩ : ByteArray) ++ i1)) W := fun W => run_string_add_sum W _ _ (by first | omega | (simp only [ByteArray.size_append]; omega))
      have d7 : ∀ W : World, (Op.stringOp BinOp.add (⟨#[91]⟩ ++ nm ++ ⟨#[93, 10, 114, 111, 111, 116, 32, 61, 32]⟩ ++ rt ++ ⟨#[10, 119, 114, 105, 116, 101, 32, 61, 32]⟩ ++ yn ++ ⟨#[10, 115, 108, 111, 116, 115, 32, 61, 32]⟩ ++ i1) (⟨#[10, 113, 117, 111, 116, 97, 32, 61, 32]⟩)).run Tryz.prog W = .ok (.string ((⟨#[91]⟩ ++ nm ++ ⟨#[93, 10, 114, 111, 111, 116, 32, 61, 32]⟩ ++ rt ++ ⟨#[10, 119, 114, 105, 116, 101, 32, 61, 32]⟩ ++ yn ++ ⟨#[10, 115, 108, 111, 116, 115, 32, 61, 32]⟩ ++ i1 : ByteArray) ++ ⟨#[10, 113, 117, 111, 116, 97, 32, 61, 32]⟩)) W := fun W => run_string_add_sum W _ _ (by first | omega | (simp only [ByteArray.size_append]; omega))
      have d8 : ∀ W : World, (Op.stringOp BinOp.add (⟨#[91]⟩ ++ nm ++ ⟨#[93, 10, 114, 111, 111, 116, 32, 61, 32]⟩ ++ rt ++ ⟨#[10, 119, 114, 105, 116, 101, 32, 61, 32]⟩ ++ yn ++ ⟨#[10, 115, 108, 111, 116, 115, 32, 61, 32]⟩ ++ i1 ++ ⟨#[10, 113, 117, 111, 116, 97, 32, 61, 32]⟩) (i2)).run Tryz.prog W = .ok (.string ((⟨#[91]⟩ ++ nm ++ ⟨#[93, 10, 114, 111, 111, 116, 32, 61, 32]⟩ ++ rt ++ ⟨#[10, 119, 114, 105, 116, 101, 32, 61, 32]⟩ ++ yn ++ ⟨#[10, 115, 108, 111, 116, 115, 32, 61, 32]⟩ ++ i1 ++ ⟨#[10, 113, 117, 111, 116, 97, 32, 61, 32]⟩ : ByteArray) ++ i2)) W := fun W => run_string_add_sum W _ _ (by first | omega | (simp only [ByteArray.size_append]; omega))
      have d9 : ∀ W : World, (Op.stringOp BinOp.add (⟨#[91]⟩ ++ nm ++ ⟨#[93, 10, 114, 111, 111, 116, 32, 61, 32]⟩ ++ rt ++ ⟨#[10, 119, 114, 105, 116, 101, 32, 61, 32]⟩ ++ yn ++ ⟨#[10, 115, 108, 111, 116, 115, 32, 61, 32]⟩ ++ i1 ++ ⟨#[10, 113, 117, 111, 116, 97, 32, 61, 32]⟩ ++ i2) (⟨#[10]⟩)).run Tryz.prog W = .ok (.string ((⟨#[91]⟩ ++ nm ++ ⟨#[93, 10, 114, 111, 111, 116, 32, 61, 32]⟩ ++ rt ++ ⟨#[10, 119, 114, 105, 116, 101, 32, 61, 32]⟩ ++ yn ++ ⟨#[10, 115, 108, 111, 116, 115, 32, 61, 32]⟩ ++ i1 ++ ⟨#[10, 113, 117, 111, 116, 97, 32, 61, 32]⟩ ++ i2 : ByteArray) ++ ⟨#[10]⟩)) W := fun W => run_string_add_sum W _ _ (by first | omega | (simp only [ByteArray.size_append]; omega))
      have dz : ∀ W : World, (Op.stringOp BinOp.add t (⟨#[91]⟩ ++ nm ++ ⟨#[93, 10, 114, 111, 111, 116, 32, 61, 32]⟩ ++ rt ++ ⟨#[10, 119, 114, 105, 116, 101, 32, 61, 32]⟩ ++ yn ++ ⟨#[10, 115, 108, 111, 116, 115, 32, 61, 32]⟩ ++ i1 ++ ⟨#[10, 113, 117, 111, 116, 97, 32, 61, 32]⟩ ++ i2 ++ ⟨#[10]⟩)).run Tryz.prog W = .ok (.string (t ++ (⟨#[91]⟩ ++ nm ++ ⟨#[93, 10, 114, 111, 111, 116, 32, 61, 32]⟩ ++ rt ++ ⟨#[10, 119, 114, 105, 116, 101, 32, 61, 32]⟩ ++ yn ++ ⟨#[10, 115, 108, 111, 116, 115, 32, 61, 32]⟩ ++ i1 ++ ⟨#[10, 113, 117, 111, 116, 97, 32, 61, 32]⟩ ++ i2 ++ ⟨#[10]⟩))) W := fun W => run_string_add_sum W _ _ (by simp only [ByteArray.size_append]; omega)
      have HS : Hid (∀ W, Below W1.heap.size W1 W → W.cell? ⟨g, 0, none⟩ = some (.string nm) ∧ W.cell? ⟨g, 1, none⟩ = some (.string rt) ∧ W.cell? ⟨g, 3, none⟩ = some (.int .i64 sl) ∧ W.cell? ⟨g, 4, none⟩ = some (.int .i64 qu)) := Lib.hid (fun W hW => ⟨by rw [cell_of_row _ _ 0 _ _ _ (block_below HM1.out hW)]; rfl, by rw [cell_of_row _ _ 1 _ _ _ (block_below HM1.out hW)]; rfl, by rw [cell_of_row _ _ 3 _ _ _ (block_below HM1.out hW)]; rfl, by rw [cell_of_row _ _ 4 _ _ _ (block_below HM1.out hW)]; rfl⟩)
      have s1 := Lib.hid (HS.out W1 (Below.refl _ _))
      have HD1 : Hid (Below W1.heap.size W1 W1.drew) := Lib.hid (Below.refl _ _).drew
      obtain ⟨L9, hL9⟩ : ∃ L : ByteArray, L = t ++ (⟨#[91]⟩ ++ nm ++ ⟨#[93, 10, 114, 111, 111, 116, 32, 61, 32]⟩ ++ rt ++ ⟨#[10, 119, 114, 105, 116, 101, 32, 61, 32]⟩ ++ yn ++ ⟨#[10, 115, 108, 111, 116, 115, 32, 61, 32]⟩ ++ i1 ++ ⟨#[10, 113, 117, 111, 116, 97, 32, 61, 32]⟩ ++ i2 ++ ⟨#[10]⟩) := ⟨_, rfl⟩
      have hl9 : L9.size ≤ 33000 := by
        rw [hL9]
        simp only [ByteArray.size_append]
        omega
      have HL9 : Hid (L9.data.toList ++ us.flatMap usrT = textC (ms.take (k + 1))) := Lib.hid (by
        rw [HEQ.out, hL9, HT.out, HYN.out]
        have e1 : ((if wb then ⟨#[121, 101, 115]⟩ else ⟨#[110, 111]⟩ : ByteArray)).data.toList = (if wb then [121, 101, 115] else [110, 111]) := by split <;> rfl
        simp [ByteArray.data_append, HL1.out, HL2.out, modT, bA, e1])
      clear z0 z1 z2 z3 z4 z5 y2
      go_upto_region 9 with fail
      go_cut [3] from 20 to 42 (fun ov wc => ov = .string L9 ∧ Below W1.heap.size W1 wc)
      case first =>
        go_region_held3 (fun w' => w'.cell? ⟨g, 0, none⟩ = some (.string nm) ∧ w'.cell? ⟨g, 1, none⟩ = some (.string rt) ∧ w'.cell? ⟨g, 3, none⟩ = some (.int .i64 sl) ∧ w'.cell? ⟨g, 4, none⟩ = some (.int .i64 qu))
          (first
            | exact s8.out
            | exact s7.out
            | exact s1.out)
          (first
            | (go_at_call 40
               first
                 | (have HB7' := HB7
                    refine (HI2.out _).mono ?_
                    rintro e w8 ⟨rfl, hb8⟩
                    have HB8 := Lib.hid (below_from HB7.out hb8)
                    have s8 := Lib.hid (HS.out w8 HB8.out)
                    clear hb8)
                 | (refine (HI1.out _).mono ?_
                    rintro e w7 ⟨rfl, hb7⟩
                    have HB7 := Lib.hid (below_from HD1.out hb7)
                    have s7 := Lib.hid (HS.out w7 HB7.out)
                    clear hb7)))
        all_goals
          go_wp2_with fail
          go_meet
          case rel => exact ⟨by rw [hL9], HB8.out⟩
      case rest =>
      obtain ⟨rfl, hb9⟩ := hcut
      obtain ⟨W9, rfl⟩ : ∃ W, W = wc := ⟨wc, rfl⟩
      have HB9 := Lib.hid (below_from HB1.out hb9)
      have HM9 := Lib.hid (block_below HM1.out hb9)
      clear hb9 hL9 HI1 HI2 HD1 s1 HS d0 d1 d2 d3 d4 d5 d6 d7 d8 d9 dz
      go_wp2_with fail
      go_loopw [3, 7] (fun ov i wr => ∃ (j : Nat) (x : ByteArray), j ≤ us.length ∧ i = .int .i64 j ∧ ov = .string x ∧ x.data.toList = L9.data.toList ++ (us.take j).flatMap usrT ∧ Below W9.heap.size W9 wr) (fun _ i _ => us.length - (intOf i).toNat)
      case atStart => exact ⟨0, L9, by omega, rfl, rfl, by simp, Below.refl _ _⟩
      case round =>
        obtain ⟨j, x, hj, rfl, rfl, hx, hbj⟩ := hrel
        obtain ⟨wj, rfl⟩ : ∃ W, W = wr := ⟨wr, rfl⟩
        have y5 : wj.cell? ⟨g, 5, none⟩ = some (.slice Au us.length cu) := by rw [cell_of_row _ _ 5 _ _ _ (block_below HM9.out hbj)]; rfl
        have HBJ := Lib.hid hbj
        by_cases hjl : j < us.length
        · obtain ⟨A4, c4, e4, _, hc4⟩ := UsersIn.at_ (RowIn.below HU.out (below_from HB9.out hbj))
          injection e4 with e4 hz3 hz4
          clear hz3
          subst e4 hz4
          obtain ⟨b4, o4, rfl, x0, x1⟩ := hc4 j hjl
          obtain ⟨hu0z, hu1z⟩ := HUS.out _ (List.getElem_mem hjl)
          have HSTEP : Hid ((us.take (j + 1)).flatMap usrT = (us.take j).flatMap usrT ++ usrT us[j]) := Lib.hid (usr_take hjl)
          have hxz : x.size ≤ 35000 := by
            have h1 := usrs_few (us.take j) (fun u hu => HUS.out u (List.mem_of_mem_take hu))
            rw [List.length_take] at h1
            rw [← size_len, hx, List.length_append, size_len]
            omega
          obtain ⟨⟨u0, u1⟩, hu01⟩ : ∃ x, x = us[j] := ⟨_, rfl⟩
          rw [← hu01] at x0 x1 hu0z hu1z HSTEP
          simp only at x0 x1 hu0z hu1z
          have z0 : (⟨#[117, 115, 101, 114, 32, 61, 32]⟩ : ByteArray).size = 7 := rfl
          have z1 : (⟨#[58]⟩ : ByteArray).size = 1 := rfl
          have z2 : (⟨#[10]⟩ : ByteArray).size = 1 := rfl
          have d0 : ∀ W : World, (Op.stringOp BinOp.add (⟨#[117, 115, 101, 114, 32, 61, 32]⟩) (u0)).run Tryz.prog W = .ok (.string ((⟨#[117, 115, 101, 114, 32, 61, 32]⟩ : ByteArray) ++ u0)) W := fun W => run_string_add_sum W _ _ (by first | omega | (simp only [ByteArray.size_append]; omega))
          have d1 : ∀ W : World, (Op.stringOp BinOp.add (⟨#[117, 115, 101, 114, 32, 61, 32]⟩ ++ u0) (⟨#[58]⟩)).run Tryz.prog W = .ok (.string ((⟨#[117, 115, 101, 114, 32, 61, 32]⟩ ++ u0 : ByteArray) ++ ⟨#[58]⟩)) W := fun W => run_string_add_sum W _ _ (by first | omega | (simp only [ByteArray.size_append]; omega))
          have d2 : ∀ W : World, (Op.stringOp BinOp.add (⟨#[117, 115, 101, 114, 32, 61, 32]⟩ ++ u0 ++ ⟨#[58]⟩) (u1)).run Tryz.prog W = .ok (.string ((⟨#[117, 115, 101, 114, 32, 61, 32]⟩ ++ u0 ++ ⟨#[58]⟩ : ByteArray) ++ u1)) W := fun W => run_string_add_sum W _ _ (by first | omega | (simp only [ByteArray.size_append]; omega))
          have d3 : ∀ W : World, (Op.stringOp BinOp.add (⟨#[117, 115, 101, 114, 32, 61, 32]⟩ ++ u0 ++ ⟨#[58]⟩ ++ u1) (⟨#[10]⟩)).run Tryz.prog W = .ok (.string ((⟨#[117, 115, 101, 114, 32, 61, 32]⟩ ++ u0 ++ ⟨#[58]⟩ ++ u1 : ByteArray) ++ ⟨#[10]⟩)) W := fun W => run_string_add_sum W _ _ (by first | omega | (simp only [ByteArray.size_append]; omega))
          have dz : ∀ W : World, (Op.stringOp BinOp.add x (⟨#[117, 115, 101, 114, 32, 61, 32]⟩ ++ u0 ++ ⟨#[58]⟩ ++ u1 ++ ⟨#[10]⟩)).run Tryz.prog W = .ok (.string (x ++ (⟨#[117, 115, 101, 114, 32, 61, 32]⟩ ++ u0 ++ ⟨#[58]⟩ ++ u1 ++ ⟨#[10]⟩))) W := fun W => run_string_add_sum W _ _ (by simp only [ByteArray.size_append]; omega)
          have HX : Hid ((x ++ (⟨#[117, 115, 101, 114, 32, 61, 32]⟩ ++ u0 ++ ⟨#[58]⟩ ++ u1 ++ ⟨#[10]⟩)).data.toList = L9.data.toList ++ (us.take (j + 1)).flatMap usrT) := Lib.hid (by
            rw [ByteArray.data_append, Array.toList_append, hx, HSTEP.out]
            simp [ByteArray.data_append, usrT])
          have HBN := Lib.hid (fun n => below_drewN hbj n)
          clear hc4 hu01 hbj hx z0 z1 z2
          go_wp2_with fail
          go_quiet (fail)
          go_wp2_with fail
          go_roundw
          case rel => exact ⟨j + 1, _, by omega, by go_num, rfl, HX.out, HBN.out _⟩
          case measure => simp [intOf]; omega
        · obtain rfl : j = us.length := by omega
          have HX : Hid (x = bA (textC (ms.take (k + 1)))) := Lib.hid (by rw [← HL9.out, ← bA_self x, hx, List.take_length])
          clear hx hbj
          go_wp2_with fail
          go_roundw
          case rel => exact ⟨k + 1, x, by omega, by go_num, rfl, HX.out, below_from HB9.out HBJ.out⟩
          case measure => simp [intOf]; omega
    · obtain rfl : k = q.length := by omega
      have HX : Hid (t = bA (textC ms)) := Lib.hid (by rw [HT.out, ← hml, List.take_length])
      clear hbw
      go_wp2_with fail
      go_ret
      exact ⟨by rw [HX.out]; rfl, HB.out⟩
end Go.Proofs.YtddnfooachibiaaGreatDoor

namespace Go.Proofs.YtddnfooachibiaaGreatDoor
open Go.RowKit Go.Maps Go.WideMaps Go.WideAt
/-- What both come to, of one text. -/
theorem parse_both {s : ByteArray} {w1 w2 w1' w2' : World} {e1 e2 : Ending} (h1 : ParsePost s w1 e1 w1') (h2 : RParsePost s w2 e2 w2') :
    (∃ t u p x, x ≠ 0 ∧ parseC s = (.fault p x, []) ∧ e1 = .returned (.tuple #[.agg #[.slice none 0 0], .iface t u]) ∧ ErrV w1' (.iface t u) (.fault p x) ∧ e2 = .returned (.tuple #[.slice none 0 0, .int .i64 x, .int .i64 p])) ∨
    (∃ A c q A2 c2 q2, parseC s = (.nil, q.map MRow.md) ∧ q.map MRow.md = q2.map RMRow.md ∧ e1 = .returned (.tuple #[.agg #[.slice A q.length c], .nilIface]) ∧ ModsIn w1' (.slice A q.length c) q ∧ e2 = .returned (.tuple #[.slice A2 q2.length c2, .int .i64 0, .int .i64 0]) ∧ RModsIn w2' (.slice A2 q2.length c2) q2) := by
  obtain ⟨_, ⟨t, u, g, p1, p2, p3, p4⟩ | ⟨cv, q, p1, p3, p4⟩⟩ := h1
  · obtain ⟨_, ⟨A, c, q, r1, _, _⟩ | ⟨p, x, r1, r2, r3⟩⟩ := h2
    · rw [r1] at p1
      injection p1 with p1 _
      exact absurd p1.symm p2
    · have r1' := r1
      rw [p1] at r1
      injection r1 with r1 _
      subst r1
      exact .inl ⟨t, u, p, x, r2, r1', p3, p4, r3⟩
  · obtain ⟨A, c, rfl, _⟩ := p4.row.slice
    obtain ⟨_, ⟨A2, c2, q2, r1, r2, r3⟩ | ⟨p, x, r1, _, _⟩⟩ := h2
    · have p1' := p1
      rw [r1] at p1
      injection p1 with _ p1
      exact .inr ⟨A, c, q, A2, c2, q2, p1', p1.symm, p3, p4, r2, r3⟩
    · rw [r1] at p1
      injection p1 with p1 _
      cases p1
theorem good_few {s : ByteArray} {q : List MRow} (h : parseC s = (.nil, q.map MRow.md)) : q.length ≤ 8 ∧ ∀ r ∈ q, r.md.us.length ≤ 8 := by
  obtain ⟨hg, h8, _, _⟩ := parse_good h
  exact ⟨by simpa using h8, fun r hr => (hg r.md (List.mem_map.2 ⟨r, hr, rfl⟩)).most⟩
set_option maxRecDepth 100000 in
set_option maxHeartbeats 2000000 in
theorem confParses_walk (s : ByteArray) (w : World) (hs : s.size ≤ 140737488351232) (hg : EnvC w) : Calls Tryz.prog 3 #[.string s] w fun e w' => e = .returned (.bool true) ∧ Below w.heap.size w w' := by
  have HH := Lib.hid (parses_any w hg)
  have HG := Lib.hid hg
  clear hg
  go_enter Tryz.func3, Tryz.ntmps3
  go_wp2_with fail
  refine HH.out.mono ?_
  rintro e w1 ⟨rfl, hb1⟩
  have HB1 := Lib.hid hb1
  have HP := Lib.hid (cparse_any s w1 hs (HG.out.below hb1))
  clear hb1
  by_cases hz : 9000 < s.size
  · have hzi : (9000 : Int) < s.size := by omega
    go_wp2_with fail
    go_ret
    exact ⟨rfl, HB1.out⟩
  · have hzi : ¬ (9000 : Int) < s.size := by omega
    have hzi2 : decide ((9000 : Int) < s.size) = false := decide_eq_false hzi
    go_wp2_with fail
    refine HP.out.mono ?_
    intro e w3 hp
    have hb3 := hp.1
    have hkey : (∃ A n c er, e = .returned (.tuple #[.agg #[.slice A n c], er])) := by
      obtain ⟨_, ⟨t, u, g, _, _, p3, _⟩ | ⟨cv, q, _, p3, p4⟩⟩ := hp
      · exact ⟨none, 0, 0, _, p3⟩
      · obtain ⟨A, c, e', _⟩ := p4.row.slice
        rw [e'] at p3
        exact ⟨A, _, c, _, p3⟩
    obtain ⟨A, n, c, er, rfl⟩ := hkey
    have hb4 := below_one w3 (.cells #[.slice A n c] 25)
    have hn4 := heap_alloc_new w3 (.cells #[.slice A n c] 25)
    have HB4 := Lib.hid (below_from HB1.out (below_from hb3 hb4))
    have HP4 := Lib.hid hp
    have HR := Lib.hid (rparse_any s (w3.alloc (.cells #[.slice A n c] 25)) hs)
    have HN4 := Lib.hid hn4
    have hb4' := Lib.hid hb4
    clear hp hb3 hb4 hn4
    go_wp2_with fail
    refine HR.out.mono ?_
    intro e w5 hr
    have hb5 := hr.1
    have HB5 := Lib.hid hb5
    have y0 : w5.cell? ⟨w3.heap.size, 0, none⟩ = some (.slice A n c) := by rw [cell_of_row _ _ 0 _ _ _ (block_below HN4.out hb5)]; rfl
    rcases parse_both HP4.out hr with ⟨t, u, p, x, hx0, hpc, e1, hev, rfl⟩ | ⟨A1, c1, q, A2, c2, q2, hpc, hqq, e1, hm, rfl, hrm⟩
    · injection e1 with e1
      injection e1 with e1
      simp only [Array.mk.injEq, List.cons.injEq, Value.agg.injEq, Value.slice.injEq, and_true] at e1
      obtain ⟨⟨rfl, rfl, rfl⟩, rfl⟩ := e1
      have bx0 : (x == 0) = false := by simpa using hx0
      have bx1 : (x != 0) = true := by simpa using hx0
      have HEV := Lib.hid ((hev.below hb4'.out).below hb5)
      have HNU := Lib.hid (number (.iface t u) (.fault p x) w5 HEV.out (HG.out.below (below_from HB4.out hb5)).env)
      clear hr hb5 hev
      go_wp2_with fail
      refine HNU.out.mono ?_
      rintro e w6 ⟨rfl, hb6⟩
      have HB6 := Lib.hid hb6
      have HPL := Lib.hid (place (.iface t u) (.fault p x) w6 (HEV.out.below hb6) (HG.out.below (below_from HB4.out (below_from HB5.out hb6))).env)
      simp only [GErr.num]
      replace y0 := cell_below hb6 y0
      clear hb6
      go_wp2_with fail
      refine HPL.out.mono ?_
      rintro e w7 ⟨rfl, hb7⟩
      have HB7 := Lib.hid hb7
      simp only [GErr.place]
      replace y0 := cell_below hb7 y0
      have HL := Lib.hid (like_any (.slice none 0 0) [] none 0 [] w7 (by simp) (fun r h => by cases h) ⟨RowIn.nil _ _ _, fun r h => by cases h⟩ ⟨RowIn.nil _ _ _, (fun r h => by cases h), (fun r h => by cases h)⟩ rfl)
      clear hb7
      go_wp2_with fail
      refine HL.out.mono ?_
      rintro e w8 ⟨rfl, hb8⟩
      have HB8 := Lib.hid hb8
      clear hb8
      go_wp2_with fail
      go_ret
      exact ⟨rfl, below_from HB4.out (below_from HB5.out (below_from HB6.out (below_from HB7.out HB8.out)))⟩
    · injection e1 with e1
      injection e1 with e1
      simp only [Array.mk.injEq, List.cons.injEq, Value.agg.injEq, Value.slice.injEq, and_true] at e1
      obtain ⟨⟨rfl, rfl, rfl⟩, rfl⟩ := e1
      obtain ⟨h8, hu8⟩ := good_few hpc
      have HM := Lib.hid ((hm.below hb4'.out).below hb5)
      have HRM := Lib.hid hrm
      have HQQ := Lib.hid hqq
      have HU8 := Lib.hid hu8
      have hq2 : q2.length = q.length := by
        have := congrArg List.length hqq
        simpa using this.symm
      have HNU := Lib.hid (number .nilIface .nil w5 rfl (HG.out.below (below_from HB4.out hb5)).env)
      clear hr hb5 hm hrm hqq hu8 hpc
      go_wp2_with fail
      refine HNU.out.mono ?_
      rintro e w6 ⟨rfl, hb6⟩
      have HB6 := Lib.hid hb6
      simp only [GErr.num]
      replace y0 := cell_below hb6 y0
      have HL := Lib.hid (like_any _ q A2 c2 q2 w6 (by omega) (fun r h => Nat.le_trans (HU8.out r h) (by decide)) (HM.out.below hb6) (HRM.out.below hb6) HQQ.out)
      rw [hq2] at HL
      clear hb6
      go_wp2_with fail
      refine HL.out.mono ?_
      rintro e w8 ⟨rfl, hb8⟩
      have HB8 := Lib.hid hb8
      clear hb8
      go_wp2_with fail
      go_ret
      exact ⟨rfl, below_from HB4.out (below_from HB5.out (below_from HB6.out HB8.out))⟩
end Go.Proofs.YtddnfooachibiaaGreatDoor

namespace Go.Proofs.YtddnfooachibiaaGreatDoor
open Go.RowKit Go.Maps Go.WideMaps Go.WideAt
theorem parseL_lt : ∀ (L : List (List UInt8)) (i : Nat) (st : StC) {k : Nat} {e : Int}, parseL i st L = .error (k, e) → k < i + L.length
  | [], i, st, k, e, h => by cases h
  | l :: r, i, st, k, e, h => by
    rw [parseL] at h
    cases hl : lineC st l with
    | error x =>
      rw [hl] at h
      injection h with h
      injection h with h _
      rw [← h, List.length_cons]; omega
    | ok st' =>
      rw [hl] at h
      have := parseL_lt r (i + 1) st' h
      rw [List.length_cons]; omega
theorem ahead_two (n : Nat) (s : ByteArray) (h : (aheadL n).length + s.size ≤ 8192) :
    (∃ ms, parseC s = (.nil, ms) ∧ parseC (bA (aheadL n ++ s.data.toList)) = (.nil, ms)) ∨
    (∃ p p2 x, parseC s = (.fault p x, []) ∧ parseC (bA (aheadL n ++ s.data.toList)) = (.fault p2 x, []) ∧ (p2 = p ∨ (p2 = p + n ∧ 0 ≤ p ∧ p ≤ 9000))) := by
  have hs : ¬ 8192 < s.size := by omega
  rw [parse_ahead n s h]
  cases hp : parseL 0 ⟨[], []⟩ (linesL s.data.toList) with
  | error ie =>
    obtain ⟨i, e⟩ := ie
    have h1 := parseL_lt _ _ _ hp
    have h2 := linesL_many s.data.toList
    rw [size_len] at h2
    refine .inr ⟨i, (i + n : Nat), e, ?_, rfl, .inr ⟨by simp, by omega, by omega⟩⟩
    unfold parseC
    rw [if_neg hs, hp]
  | ok st =>
    rcases whole_form st.ms 0 [] with hw | ⟨p, x, hw⟩
    · have := parseC_ok (by omega) hp hw
      exact .inl ⟨st.ms, this, this⟩
    · have := parseC_whole (by omega) hp hw (by intro h; cases h)
      exact .inr ⟨p, p, x, this, this, .inl rfl⟩
theorem rparse_fault {s : ByteArray} {p x : Int} {w w' : World} {e : Ending} (h : RParsePost s w e w') (hp : parseC s = (.fault p x, [])) : Below w.heap.size w w' ∧ e = .returned (.tuple #[.slice none 0 0, .int .i64 x, .int .i64 p]) := by
  obtain ⟨hb, ⟨A, c, q, h1, _, _⟩ | ⟨p', x', h1, _, h2⟩⟩ := h
  · rw [hp] at h1
    injection h1 with h1 _
    cases h1
  · rw [hp] at h1
    injection h1 with h1 _
    injection h1 with h3 h4
    subst h3 h4
    exact ⟨hb, h2⟩
theorem ahead_len : ∀ k, (aheadL k).length ≤ 12 * k
  | 0 => by simp [aheadL]
  | k + 1 => by
    have := ahead_len k
    have h2 : (blankL k).length ≤ 11 := by unfold blankL; split <;> simp
    simp [aheadL]; omega
theorem app_bA (x y : ByteArray) {l : List UInt8} (h : x.data.toList = l) : x ++ y = bA (l ++ y.data.toList) := by
  rw [← bA_self (x ++ y), ByteArray.data_append, Array.toList_append, h]
set_option maxRecDepth 100000 in
set_option maxHeartbeats 2000000 in
theorem confLines_walk (s : ByteArray) (f : Int) (w : World) (hs : s.size ≤ 140737488351232) (hf : (Lit.int .i64 f).wf = true) (hg : EnvC w) : Calls Tryz.prog 8 #[.string s, .int .i64 f] w fun e w' => e = .returned (.bool true) ∧ Below w.heap.size w w' := by
  have HH := Lib.hid (parses_any w hg)
  have HG := Lib.hid hg
  clear hg
  by_cases hr : (0 ≤ f ∧ f ≤ 20) ∧ s.size ≤ 8000
  · obtain ⟨n, rfl⟩ : ∃ n : Nat, f = (n : Int) := ⟨f.toNat, by omega⟩
    have b1 : decide ((n : Int) < 0) = false := decide_eq_false (by omega)
    have b2 : decide ((20 : Int) < n) = false := decide_eq_false (by omega)
    have b3 : decide ((8000 : Int) < s.size) = false := decide_eq_false (by omega)
    have hn20 : n ≤ 20 := by omega
    have hs8 : s.size ≤ 8000 := hr.2
    clear hr hf hs
    go_enter Tryz.func8, Tryz.ntmps8
    go_wp2_with fail
    refine HH.out.mono ?_
    rintro e w1 ⟨rfl, hb1⟩
    have HB1 := Lib.hid hb1
    clear hb1
    go_wp2_with fail
    go_loopw [5, 6, 32] (fun sv _ i wr => ∃ (k : Nat) (t : ByteArray), k ≤ n ∧ i = .int .i64 k ∧ sv = .string t ∧ t.data.toList = aheadL k ∧ t.size ≤ 240 ∧ wr = w1) (fun _ _ i _ => n - (intOf i).toNat)
    case atStart => exact ⟨0, ⟨#[]⟩, by omega, rfl, rfl, rfl, by decide, rfl⟩
    case round =>
      obtain ⟨k, t, hk, rfl, rfl, ht, htz, hwr⟩ := hrel
      replace hwr := hwr.symm
      subst hwr
      have HT := Lib.hid ht
      clear ht
      by_cases hlt : k < n
      · have HLN := Lib.hid (ahead_len (k + 1))
        have hkz : ∀ u : ByteArray, u.data.toList = aheadL (k + 1) → u.size ≤ 240 := fun u hu => by
          have h1 := HLN.out
          rw [← hu, size_len] at h1
          omega
        have HKZ := Lib.hid hkz
        clear hkz
        by_cases hp : k % 2 = 0
        · have bp : (((k : Int) % 2) == 0) = true := by rw [beq_iff_eq]; omega
          have HP := Lib.hid hp
          have hq : ((t ++ ⟨#[32, 32, 35, 32, 120, 32, 61, 32, 91, 121, 93, 10]⟩ : ByteArray)).data.toList = aheadL (k + 1) := by
            simp [ByteArray.data_append, aheadL, blankL, HT.out, hp]
          have HQ := Lib.hid hq
          clear hq hp
          go_wp2_with fail
          go_roundw
          case rel => exact ⟨k + 1, _, by omega, by go_num, rfl, HQ.out, HKZ.out _ HQ.out, (by first | exact True.intro | rfl)⟩
          case measure => simp [intOf]; omega
        · have bp : (((k : Int) % 2) == 0) = false := by rw [beq_eq_false_iff_ne]; omega
          have HP := Lib.hid hp
          have hq : ((t ++ ⟨#[32, 32, 32, 10]⟩ : ByteArray)).data.toList = aheadL (k + 1) := by
            simp [ByteArray.data_append, aheadL, blankL, HT.out, hp]
          have HQ := Lib.hid hq
          clear hq hp
          go_wp2_with fail
          go_roundw
          case rel => exact ⟨k + 1, _, by omega, by go_num, rfl, HQ.out, HKZ.out _ HQ.out, (by first | exact True.intro | rfl)⟩
          case measure => simp [intOf]; omega
      · obtain rfl : k = n := by omega
        have hw1 : IntKind.i64.wrap ((t.size : Int) + s.size) = (t.size : Int) + s.size := IntWalk.i64_in _ (by omega)
        by_cases hbig : 8192 < t.size + s.size
        · have hbi : (8192 : Int) < (t.size : Int) + s.size := by omega
          go_wp2_with fail
          go_ret
          exact ⟨rfl, HB1.out⟩
        · have hbi : ¬ (8192 : Int) < (t.size : Int) + s.size := by omega
          have HP1 := Lib.hid (cparse_any s w1 (by omega) (HG.out.below HB1.out))
          have hta : (aheadL k).length + s.size ≤ 8192 := by
            have h1 := HT.out
            rw [← h1, size_len]
            omega
          have happ : t ++ s = bA (aheadL k ++ s.data.toList) := app_bA t s HT.out
          rcases ahead_two k s hta with ⟨ms, h1, h2⟩ | ⟨p, p2, x, h1, h2, hpp⟩
          · rw [← happ] at h2
            obtain ⟨hg, h8, -, -⟩ := parse_good h1
            have HGM := Lib.hid hg
            have HH1 := Lib.hid h1
            have HH2 := Lib.hid h2
            clear hg h1 h2 happ hta
            go_wp2_with fail
            refine HP1.out.mono ?_
            intro e w3 hp
            obtain ⟨hb3, A, c, q, hq, rfl, hm⟩ := parse_right hp HH1.out
            have hb4 := below_one w3 (.cells #[.slice A q.length c] 25)
            have HB4 := Lib.hid (below_from HB1.out (below_from hb3 hb4))
            have HM4 := Lib.hid (hm.below hb4)
            have HQ1 := Lib.hid hq
            have HP2 := Lib.hid (cparse_any (t ++ s) (w3.alloc (.cells #[.slice A q.length c] 25)) (by simp only [ByteArray.size_append]; omega) (HG.out.below HB4.out))
            clear hp hb3 hb4 hm hq
            go_wp2_with fail
            refine HP2.out.mono ?_
            intro e w5 hp
            obtain ⟨hb5, A2, c2, q2, hq2, rfl, hm2⟩ := parse_right hp HH2.out
            have HM5 := Lib.hid (HM4.out.below hb5)
            have HQ2 := Lib.hid hq2
            have HM2 := Lib.hid hm2
            clear hp hq2 hm2
            obtain ⟨W6, hW6⟩ : ∃ W, W = w5.alloc (.cells #[.slice A2 q2.length c2] 25) := ⟨_, rfl⟩
            have hb6 : Below w5.heap.size w5 W6 := by rw [hW6]; exact below_one w5 _
            have y0 : W6.cell? ⟨w3.heap.size, 0, none⟩ = some (.slice A q.length c) := by rw [cell_of_row _ _ 0 _ _ _ (block_below (block_below (heap_alloc_new w3 (.cells #[.slice A q.length c] 25)) hb5) hb6)]; rfl
            have y1 : W6.cell? ⟨w5.heap.size, 0, none⟩ = some (.slice A2 q2.length c2) := by rw [hW6, cell_of_row _ _ 0 _ _ _ (heap_alloc_new w5 (.cells #[.slice A2 q2.length c2] 25))]; rfl
            have HB6 := Lib.hid (below_from HB4.out (below_from hb5 hb6))
            have HD6 : Hid (Below W6.heap.size W6 W6.drew) := Lib.hid (Below.refl _ _).drew
            have HN : Hid (∀ W, Below W6.heap.size W6 W → Calls Tryz.prog 12 #[.nilIface] W fun e w' => e = .returned (.int .i64 0) ∧ Below W.heap.size W w') := Lib.hid (fun W hW => number .nilIface .nil W rfl (HG.out.below (below_from HB6.out hW)).env)
            have HX1 : Hid (∀ W, Below W6.heap.size W6 W → Calls Tryz.prog 19 #[.agg #[.slice A q.length c]] W fun e w' => e = .returned (.string (bA (textC ms))) ∧ Below W.heap.size W w') := Lib.hid (fun W hW => by
              have := text_any _ q W (by have := congrArg List.length HQ1.out; rw [List.length_map] at this; omega) (fun r hr => good_small (HGM.out r.md (by rw [← HQ1.out]; exact List.mem_map.2 ⟨r, hr, rfl⟩))) ((HM5.out.below hb6).below hW) (HG.out.below (below_from HB6.out hW))
              rw [HQ1.out] at this
              exact this)
            have HX2 : Hid (∀ W, Below W6.heap.size W6 W → Calls Tryz.prog 19 #[.agg #[.slice A2 q2.length c2]] W fun e w' => e = .returned (.string (bA (textC ms))) ∧ Below W.heap.size W w') := Lib.hid (fun W hW => by
              have := text_any _ q2 W (by have := congrArg List.length HQ2.out; rw [List.length_map] at this; omega) (fun r hr => good_small (HGM.out r.md (by rw [← HQ2.out]; exact List.mem_map.2 ⟨r, hr, rfl⟩))) ((HM2.out.below hb6).below hW) (HG.out.below (below_from HB6.out hW))
              rw [HQ2.out] at this
              exact this)
            obtain ⟨g1, hg1⟩ : ∃ g, g = w3.heap.size := ⟨_, rfl⟩
            obtain ⟨g2, hg2⟩ : ∃ g, g = w5.heap.size := ⟨_, rfl⟩
            rw [← hg1] at y0
            rw [← hg2] at y1
            have HS : Hid (∀ W, Below W6.heap.size W6 W → W.cell? ⟨g1, 0, none⟩ = some (.slice A q.length c) ∧ W.cell? ⟨g2, 0, none⟩ = some (.slice A2 q2.length c2)) := Lib.hid (fun W hW => ⟨cell_below hW y0, cell_below hW y1⟩)
            have s6 := Lib.hid (HS.out W6 (Below.refl _ _))
            clear y0 y1
            go_upto_region 17 with fail
            rw [← hW6, ← hg1, ← hg2]
            clear hW6 hg1 hg2 hb5 hb6
            go_region_held3 (fun w' => w'.cell? ⟨g1, 0, none⟩ = some (.slice A q.length c) ∧ w'.cell? ⟨g2, 0, none⟩ = some (.slice A2 q2.length c2))
              (first
                | exact s10.out
                | exact s9.out
                | exact s8.out
                | exact s7.out
                | exact s6.out)
              (first
                | (go_at_call 12
                   first
                     | (refine (HN.out _ HB7.out).mono ?_
                        rintro e w8 ⟨rfl, hb8⟩
                        have HB8 := Lib.hid (below_from HB7.out hb8)
                        have s8 := Lib.hid (HS.out w8 HB8.out)
                        clear hb8)
                     | (refine (HN.out _ HD6.out).mono ?_
                        rintro e w7 ⟨rfl, hb7⟩
                        have HB7 := Lib.hid (below_from HD6.out hb7)
                        have s7 := Lib.hid (HS.out w7 HB7.out)
                        clear hb7))
                | (go_at_call 19
                   first
                     | (refine (HX2.out _ HB9.out).mono ?_
                        rintro e w10 ⟨rfl, hb10⟩
                        have HB10 := Lib.hid (below_from HB9.out hb10)
                        have s10 := Lib.hid (HS.out w10 HB10.out)
                        clear hb10)
                     | (refine (HX1.out _ HB8.out).mono ?_
                        rintro e w9 ⟨rfl, hb9⟩
                        have HB9 := Lib.hid (below_from HB8.out hb9)
                        have s9 := Lib.hid (HS.out w9 HB9.out)
                        clear hb9)))
            all_goals
              go_wp2_with fail
              go_ret
              exact ⟨rfl, below_from HB6.out HB10.out⟩
          · rw [← happ] at h2
            have HH1 := Lib.hid h1
            have HH2 := Lib.hid h2
            have HNE : Hid (GErr.fault p x ≠ .nil ∧ GErr.fault p2 x ≠ .nil) := Lib.hid ⟨(by intro h; cases h), (by intro h; cases h)⟩
            clear h1 h2 happ hta
            go_wp2_with fail
            refine HP1.out.mono ?_
            intro e w3 hp
            obtain ⟨hb3, t1, u1, rfl, hev1⟩ := parse_wrong hp HH1.out HNE.out.1
            have hb4 := below_one w3 (.cells #[.slice none 0 0] 25)
            have HB4 := Lib.hid (below_from HB1.out (below_from hb3 hb4))
            have HEV4 := Lib.hid (hev1.below hb4)
            have HP2 := Lib.hid (cparse_any (t ++ s) (w3.alloc (.cells #[.slice none 0 0] 25)) (by simp only [ByteArray.size_append]; omega) (HG.out.below HB4.out))
            clear hp hb3 hb4 hev1
            go_wp2_with fail
            refine HP2.out.mono ?_
            intro e w5 hp
            obtain ⟨hb5, t2, u2, rfl, hev2⟩ := parse_wrong hp HH2.out HNE.out.2
            have HEV1 := Lib.hid (HEV4.out.below hb5)
            have HEV2 := Lib.hid hev2
            clear hp hev2
            obtain ⟨W6, hW6⟩ : ∃ W, W = w5.alloc (.cells #[.slice none 0 0] 25) := ⟨_, rfl⟩
            have hb6 : Below w5.heap.size w5 W6 := by rw [hW6]; exact below_one w5 _
            have y0 : W6.cell? ⟨w3.heap.size, 0, none⟩ = some (.slice none 0 0) := by rw [cell_of_row _ _ 0 _ _ _ (block_below (block_below (heap_alloc_new w3 (.cells #[.slice none 0 0] 25)) hb5) hb6)]; rfl
            have y1 : W6.cell? ⟨w5.heap.size, 0, none⟩ = some (.slice none 0 0) := by rw [hW6, cell_of_row _ _ 0 _ _ _ (heap_alloc_new w5 (.cells #[.slice none 0 0] 25))]; rfl
            have HB6 := Lib.hid (below_from HB4.out (below_from hb5 hb6))
            have HD6 : Hid (Below W6.heap.size W6 W6.drew) := Lib.hid (Below.refl _ _).drew
            have HN1 : Hid (∀ W, Below W6.heap.size W6 W → Calls Tryz.prog 12 #[.iface t1 u1] W fun e w' => e = .returned (.int .i64 x) ∧ Below W.heap.size W w') := Lib.hid (fun W hW => number _ (.fault p x) W ((HEV1.out.below hb6).below hW) (HG.out.below (below_from HB6.out hW)).env)
            have HN2 : Hid (∀ W, Below W6.heap.size W6 W → Calls Tryz.prog 12 #[.iface t2 u2] W fun e w' => e = .returned (.int .i64 x) ∧ Below W.heap.size W w') := Lib.hid (fun W hW => number _ (.fault p2 x) W ((HEV2.out.below hb6).below hW) (HG.out.below (below_from HB6.out hW)).env)
            have HX : Hid (∀ W, Below W6.heap.size W6 W → Calls Tryz.prog 19 #[.agg #[.slice none 0 0]] W fun e w' => e = .returned (.string ⟨#[]⟩) ∧ Below W.heap.size W w') := Lib.hid (fun W hW => text_any _ [] W (by simp) (fun r h => by cases h) ⟨RowIn.nil _ _ _, fun r h => by cases h⟩ (HG.out.below (below_from HB6.out hW)))
            have HPL1 : Hid (∀ W, Below W6.heap.size W6 W → Calls Tryz.prog 13 #[.iface t1 u1] W fun e w' => e = .returned (.int .i64 p) ∧ Below W.heap.size W w') := Lib.hid (fun W hW => place _ (.fault p x) W ((HEV1.out.below hb6).below hW) (HG.out.below (below_from HB6.out hW)).env)
            have HPL2 : Hid (∀ W, Below W6.heap.size W6 W → Calls Tryz.prog 13 #[.iface t2 u2] W fun e w' => e = .returned (.int .i64 p2) ∧ Below W.heap.size W w') := Lib.hid (fun W hW => place _ (.fault p2 x) W ((HEV2.out.below hb6).below hW) (HG.out.below (below_from HB6.out hW)).env)
            obtain ⟨g1, hg1⟩ : ∃ g, g = w3.heap.size := ⟨_, rfl⟩
            obtain ⟨g2, hg2⟩ : ∃ g, g = w5.heap.size := ⟨_, rfl⟩
            rw [← hg1] at y0
            rw [← hg2] at y1
            have HS : Hid (∀ W, Below W6.heap.size W6 W → W.cell? ⟨g1, 0, none⟩ = some (.slice none 0 0) ∧ W.cell? ⟨g2, 0, none⟩ = some (.slice none 0 0)) := Lib.hid (fun W hW => ⟨cell_below hW y0, cell_below hW y1⟩)
            have s6 := Lib.hid (HS.out W6 (Below.refl _ _))
            clear y0 y1
            go_upto_region 17 with fail
            rw [← hW6, ← hg1, ← hg2]
            clear hW6 hg1 hg2 hb5 hb6
            go_region_held3 (fun w' => w'.cell? ⟨g1, 0, none⟩ = some (.slice none 0 0) ∧ w'.cell? ⟨g2, 0, none⟩ = some (.slice none 0 0))
              (first
                | exact s10.out
                | exact s9.out
                | exact s8.out
                | exact s7.out
                | exact s6.out)
              (first
                | (go_at_call 12
                   first
                     | (refine (HN2.out _ HB7.out).mono ?_
                        rintro e w8 ⟨rfl, hb8⟩
                        have HB8 := Lib.hid (below_from HB7.out hb8)
                        have s8 := Lib.hid (HS.out w8 HB8.out)
                        clear hb8)
                     | (refine (HN1.out _ HD6.out).mono ?_
                        rintro e w7 ⟨rfl, hb7⟩
                        have HB7 := Lib.hid (below_from HD6.out hb7)
                        have s7 := Lib.hid (HS.out w7 HB7.out)
                        clear hb7))
                | (go_at_call 19
                   first
                     | (refine (HX.out _ HB9.out).mono ?_
                        rintro e w10 ⟨rfl, hb10⟩
                        have HB10 := Lib.hid (below_from HB9.out hb10)
                        have s10 := Lib.hid (HS.out w10 HB10.out)
                        clear hb10)
                     | (refine (HX.out _ HB8.out).mono ?_
                        rintro e w9 ⟨rfl, hb9⟩
                        have HB9 := Lib.hid (below_from HB8.out hb9)
                        have s9 := Lib.hid (HS.out w9 HB9.out)
                        clear hb9)))
            have HRP := Lib.hid (fun W => rparse_any s W (by omega))
            clear HS HD6 HB7 HB8 HB9 s6 s7 s8 s9 s10 HN1 HN2 HX
            go_wp2_with fail
            refine (HRP.out _).mono ?_
            intro e w11 hr11
            obtain ⟨hb11, rfl⟩ := rparse_fault hr11 HH1.out
            have HB11 := Lib.hid (below_from HB10.out hb11)
            clear hr11 hb11
            go_wp2_with fail
            refine (HRP.out _).mono ?_
            intro e w12 hr12
            obtain ⟨hb12, rfl⟩ := rparse_fault hr12 HH1.out
            have HB12 := Lib.hid (below_from HB11.out hb12)
            clear hr12 hb12 HRP
            by_cases hx4 : x = 4
            · have bx4 : (x == 4) = true := by rw [beq_iff_eq]; exact hx4
              clear hx4
              go_wp2_with fail
              refine (HPL1.out _ HB12.out).mono ?_
              rintro e w13 ⟨rfl, hb13⟩
              have HB13 := Lib.hid (below_from HB12.out hb13)
              clear hb13
              go_wp2_with fail
              go_ret
              exact ⟨rfl, below_from HB6.out HB13.out⟩
            · have bx4 : (x == 4) = false := by rw [beq_eq_false_iff_ne]; exact hx4
              clear hx4
              by_cases hp2 : p2 = p
              · have bp2 : (p2 == p) = true := by rw [beq_iff_eq]; exact hp2
                clear hp2
                go_wp2_with fail
                refine (HPL2.out _ HB12.out).mono ?_
                rintro e w13 ⟨rfl, hb13⟩
                have HB13 := Lib.hid (below_from HB12.out hb13)
                clear hb13
                go_wp2_with fail
                refine (HPL1.out _ HB13.out).mono ?_
                rintro e w14 ⟨rfl, hb14⟩
                have HB14 := Lib.hid (below_from HB13.out hb14)
                clear hb14
                go_wp2_with fail
                go_ret
                exact ⟨rfl, below_from HB6.out HB14.out⟩
              · have bp2 : (p2 == p) = false := by rw [beq_eq_false_iff_ne]; exact hp2
                obtain ⟨hpe, hp0, hp9⟩ : p2 = p + k ∧ 0 ≤ p ∧ p ≤ 9000 := by
                  rcases hpp with h | h
                  · exact absurd h hp2
                  · exact h
                have hw9 : IntKind.i64.wrap (p + (k : Int)) = p + (k : Int) := IntWalk.i64_in _ (by omega)
                have bp3 : (p2 == p + (k : Int)) = true := by rw [beq_iff_eq]; exact hpe
                clear hp2 hpe
                go_wp2_with fail
                refine (HPL2.out _ HB12.out).mono ?_
                rintro e w13 ⟨rfl, hb13⟩
                have HB13 := Lib.hid (below_from HB12.out hb13)
                clear hb13
                go_wp2_with fail
                refine (HPL1.out _ HB13.out).mono ?_
                rintro e w14 ⟨rfl, hb14⟩
                have HB14 := Lib.hid (below_from HB13.out hb14)
                clear hb14
                go_wp2_with fail
                refine (HPL2.out _ HB14.out).mono ?_
                rintro e w15 ⟨rfl, hb15⟩
                have HB15 := Lib.hid (below_from HB14.out hb15)
                clear hb15
                go_wp2_with fail
                go_ret
                exact ⟨rfl, below_from HB6.out HB15.out⟩
  · rcases hb1 : decide (f < 0) with _ | _
    · rcases hb2 : decide ((20 : Int) < f) with _ | _
      · have b3 : decide ((8000 : Int) < s.size) = true := by
          simp only [decide_eq_false_iff_not] at hb1 hb2
          exact decide_eq_true (by omega)
        clear hr hf hs
        go_enter Tryz.func8, Tryz.ntmps8
        go_wp2_with fail
        refine HH.out.mono ?_
        rintro e w1 ⟨rfl, hw1⟩
        have HB1 := Lib.hid hw1
        clear hw1
        go_wp2_with fail
        go_ret
        exact ⟨rfl, HB1.out⟩
      · clear hr hf hs
        go_enter Tryz.func8, Tryz.ntmps8
        go_wp2_with fail
        refine HH.out.mono ?_
        rintro e w1 ⟨rfl, hw1⟩
        have HB1 := Lib.hid hw1
        clear hw1
        go_wp2_with fail
        go_ret
        exact ⟨rfl, HB1.out⟩
    · clear hr hf hs
      go_enter Tryz.func8, Tryz.ntmps8
      go_wp2_with fail
      refine HH.out.mono ?_
      rintro e w1 ⟨rfl, hw1⟩
      have HB1 := Lib.hid hw1
      clear hw1
      go_wp2_with fail
      go_ret
      exact ⟨rfl, HB1.out⟩
end Go.Proofs.YtddnfooachibiaaGreatDoor

namespace Go.Proofs.YtddnfooachibiaaGreatDoor
open Go.RowKit Go.Maps Go.WideMaps Go.WideAt
theorem parse_form (s : ByteArray) : (∃ ms, parseC s = (.nil, ms)) ∨ ∃ p x, parseC s = (.fault p x, []) := by
  by_cases hs : 8192 < s.size
  · exact .inr ⟨0, 2, by unfold parseC; rw [if_pos hs]⟩
  · cases hp : parseL 0 ⟨[], []⟩ (linesL s.data.toList) with
    | error ie => exact .inr ⟨_, _, parseC_bad (by omega) hp⟩
    | ok st =>
      rcases whole_form st.ms 0 [] with hw | ⟨p, x, hw⟩
      · exact .inl ⟨st.ms, parseC_ok (by omega) hp hw⟩
      · exact .inr ⟨p, x, parseC_whole (by omega) hp hw (by intro h; cases h)⟩
theorem rparse_right {s : ByteArray} {ms : List ModC} {w w' : World} {e : Ending} (h : RParsePost s w e w') (hp : parseC s = (.nil, ms)) : Below w.heap.size w w' ∧ ∃ A c q, q.map RMRow.md = ms ∧ e = .returned (.tuple #[.slice A q.length c, .int .i64 0, .int .i64 0]) ∧ RModsIn w' (.slice A q.length c) q := by
  obtain ⟨hb, ⟨A, c, q, h1, h2, h3⟩ | ⟨p', x', h1, _, h2⟩⟩ := h
  · rw [hp] at h1
    injection h1 with _ h1
    exact ⟨hb, A, c, q, h1.symm, h2, h3⟩
  · rw [hp] at h1
    injection h1 with h1 _
    cases h1
set_option maxRecDepth 100000 in
set_option maxHeartbeats 2000000 in
theorem confWrites_walk (s : ByteArray) (w : World) (hs : s.size ≤ 140737488351232) (hg : EnvC w) : Calls Tryz.prog 7 #[.string s] w fun e w' => e = .returned (.bool true) ∧ Below w.heap.size w w' := by
  have HH := Lib.hid (parses_any w hg)
  have HG := Lib.hid hg
  clear hg
  go_enter Tryz.func7, Tryz.ntmps7
  go_wp2_with fail
  refine HH.out.mono ?_
  rintro e w1 ⟨rfl, hb1⟩
  have HB1 := Lib.hid hb1
  have HP := Lib.hid (cparse_any s w1 hs (HG.out.below hb1))
  clear hb1
  by_cases hz : 9000 < s.size
  · have hzi : (9000 : Int) < s.size := by omega
    go_wp2_with fail
    go_ret
    exact ⟨rfl, HB1.out⟩
  · have hzi : ¬ (9000 : Int) < s.size := by omega
    rcases parse_form s with ⟨ms, hms⟩ | ⟨p, x, hms⟩
    · obtain ⟨hgm, h8, -, -⟩ := parse_good hms
      have HMS := Lib.hid hms
      have HGM := Lib.hid hgm
      obtain ⟨T, hT⟩ : ∃ T, T = bA (textC ms) := ⟨_, rfl⟩
      have htz : T.size ≤ 32000 := by
        rw [hT, bA_size]
        have := textC_few ms (fun m hm => good_small (hgm m hm))
        omega
      have HT := Lib.hid hT
      clear hgm hms hT
      go_wp2_with fail
      refine HP.out.mono ?_
      intro e w3 hp
      obtain ⟨hb3, A, c, q, hq, rfl, hm⟩ := parse_right hp HMS.out
      have hb4 := below_one w3 (.cells #[.slice A q.length c] 25)
      have hn4 := heap_alloc_new w3 (.cells #[.slice A q.length c] 25)
      have HB4 := Lib.hid (below_from HB1.out (below_from hb3 hb4))
      have HM4 := Lib.hid (hm.below hb4)
      have hql : q.length ≤ 8 := by
        have := congrArg List.length hq
        rw [List.length_map] at this
        omega
      have HSM : Hid (∀ r ∈ q, SmallM r.md) := Lib.hid (fun r hr => good_small (HGM.out r.md (by rw [← hq]; exact List.mem_map.2 ⟨r, hr, rfl⟩)))
      have HQ := Lib.hid hq
      have HR := Lib.hid (rparse_any s (w3.alloc (.cells #[.slice A q.length c] 25)) hs)
      have HN4 := Lib.hid hn4
      clear hp hb3 hb4 hn4 hm hq
      go_wp2_with fail
      refine HR.out.mono ?_
      intro e w5 hr
      obtain ⟨hb5, A2, c2, q2, hq2, rfl, hrm⟩ := rparse_right hr HMS.out
      have y0 : w5.cell? ⟨w3.heap.size, 0, none⟩ = some (.slice A q.length c) := by rw [cell_of_row _ _ 0 _ _ _ (block_below HN4.out hb5)]; rfl
      have HB5 := Lib.hid (below_from HB4.out hb5)
      have hql2 : q2.length ≤ 8 := by
        have := congrArg List.length hq2
        rw [List.length_map] at this
        omega
      have HSM2 : Hid (∀ r ∈ q2, SmallM r.md) := Lib.hid (fun r hr => good_small (HGM.out r.md (by rw [← hq2]; exact List.mem_map.2 ⟨r, hr, rfl⟩)))
      have HQ2 := Lib.hid hq2
      have HRM := Lib.hid hrm
      have HX : Hid (Calls Tryz.prog 19 #[.agg #[.slice A q.length c]] w5 fun e w' => e = .returned (.string T) ∧ Below w5.heap.size w5 w') := Lib.hid (by
        have := text_any _ q w5 hql HSM.out (HM4.out.below hb5) (HG.out.below HB5.out)
        rw [HQ.out, ← HT.out] at this
        exact this)
      clear hr hb5 hq2 hrm
      go_wp2_with fail
      refine HX.out.mono ?_
      rintro e w6 ⟨rfl, hb6⟩
      have HB6 := Lib.hid hb6
      have HXR : Hid (Calls Tryz.prog 20 #[.slice A2 q2.length c2] w6 fun e w' => e = .returned (.string T) ∧ Below w6.heap.size w6 w') := Lib.hid (by
        have := rtext_any A2 c2 q2 w6 hql2 HSM2.out (HRM.out.below hb6)
        rw [HQ2.out, ← HT.out] at this
        exact this)
      clear hb6
      go_wp2_with fail
      refine HXR.out.mono ?_
      rintro e w7 ⟨rfl, hb7⟩
      have HB7 := Lib.hid (below_from HB6.out hb7)
      have HP2 := Lib.hid (cparse_any T w7 (by omega) (HG.out.below (below_from HB5.out HB7.out)))
      clear hb7 y0
      by_cases hbig : 8192 < T.size
      · have hbi : (8192 : Int) < T.size := by omega
        have HF : Hid (parseC T = (.fault 0 2, [])) := Lib.hid (by unfold parseC; rw [if_pos hbig])
        go_wp2_with fail
        refine HP2.out.mono ?_
        intro e w8 hp
        obtain ⟨hb8, t8, u8, rfl, hev⟩ := parse_wrong hp HF.out (by intro h; cases h)
        have hb9 := below_one w8 (.cells #[.slice none 0 0] 25)
        have HB9 := Lib.hid (below_from HB5.out (below_from HB7.out (below_from hb8 hb9)))
        have HNU := Lib.hid (number (.iface t8 u8) (.fault 0 2) _ (hev.below hb9) (HG.out.below HB9.out).env)
        clear hp hb8 hb9 hev
        go_wp2_with fail
        refine HNU.out.mono ?_
        rintro e w10 ⟨rfl, hb10⟩
        have HB10 := Lib.hid (below_from HB9.out hb10)
        simp only [GErr.num]
        clear hb10
        go_wp2_with fail
        go_ret
        exact ⟨rfl, HB10.out⟩
      · have hbi : ¬ (8192 : Int) < T.size := by omega
        have HF : Hid (parseC T = (.nil, ms)) := Lib.hid (by
          rw [HT.out]
          exact parse_text HMS.out (by rw [HT.out, bA_size] at hbig; omega))
        go_wp2_with fail
        refine HP2.out.mono ?_
        intro e w8 hp
        obtain ⟨hb8, A3, c3, q3, hq3, rfl, hm3⟩ := parse_right hp HF.out
        have hb9 := below_one w8 (.cells #[.slice A3 q3.length c3] 25)
        have hn9 := heap_alloc_new w8 (.cells #[.slice A3 q3.length c3] 25)
        have HB79 := Lib.hid (below_from HB7.out (below_from hb8 hb9))
        have hql3 : q3.length ≤ 8 := by
          have := congrArg List.length hq3
          rw [List.length_map] at this
          omega
        have hq23 : q2.length = q3.length := by
          have h1 := congrArg List.length hq3
          have h2 := congrArg List.length HQ2.out
          rw [List.length_map] at h1 h2
          omega
        have HSM3 : Hid (∀ r ∈ q3, SmallM r.md) := Lib.hid (fun r hr => good_small (HGM.out r.md (by rw [← hq3]; exact List.mem_map.2 ⟨r, hr, rfl⟩)))
        have HM9 := Lib.hid (hm3.below hb9)
        have HN9 := Lib.hid hn9
        have HL := Lib.hid (like_any _ q3 A2 c2 q2 _ (by omega) (fun r hr => Nat.le_trans (HSM3.out r hr).most (by decide)) HM9.out (HRM.out.below HB79.out) (hq3.trans HQ2.out.symm))
        have HQ3 := Lib.hid hq3
        rw [hq23] at HL
        clear hp hb8 hb9 hn9 hm3 hq3
        go_wp2_with fail
        refine HL.out.mono ?_
        rintro e w10 ⟨rfl, hb10⟩
        have HB10 := Lib.hid (below_from HB5.out (below_from HB79.out hb10))
        have y1 : w10.cell? ⟨w8.heap.size, 0, none⟩ = some (.slice A3 q3.length c3) := by rw [cell_of_row _ _ 0 _ _ _ (block_below HN9.out hb10)]; rfl
        have HX3 : Hid (Calls Tryz.prog 19 #[.agg #[.slice A3 q3.length c3]] w10 fun e w' => e = .returned (.string T) ∧ Below w10.heap.size w10 w') := Lib.hid (by
          have := text_any _ q3 w10 hql3 HSM3.out (HM9.out.below hb10) (HG.out.below HB10.out)
          rw [HQ3.out, ← HT.out] at this
          exact this)
        clear hb10
        go_wp2_with fail
        refine HX3.out.mono ?_
        rintro e w11 ⟨rfl, hb11⟩
        have HB11 := Lib.hid (below_from HB10.out hb11)
        clear hb11
        go_wp2_with fail
        go_ret
        exact ⟨rfl, HB11.out⟩
    · have HMS := Lib.hid hms
      clear hms
      go_wp2_with fail
      refine HP.out.mono ?_
      intro e w3 hp
      obtain ⟨hb3, t3, u3, rfl, hev⟩ := parse_wrong hp HMS.out (by intro h; cases h)
      have HB4 := Lib.hid (below_from HB1.out (below_from hb3 (below_one w3 (.cells #[.slice none 0 0] 25))))
      clear hp hb3 hev
      go_wp2_with fail
      go_ret
      exact ⟨rfl, HB4.out⟩
end Go.Proofs.YtddnfooachibiaaGreatDoor

namespace Go.Proofs.YtddnfooachibiaaGreatDoor
open Go.ChangeShapes Go.WideShapes Go.ChangeAt Go.RowKit
open Go.ChangeMaps (open_string shut_string)
set_option maxRecDepth 100000 in
theorem confWrites_lifted (os : Os) (started : os.Started) (H : Type) (enc : TypeId × Value → H) :
    ReturnsInHanded {} Tryz.checked os 7 .any (fun w args => (Rows.confWritesSpec.pre enc Tryz.prog Tryz.f7 Rows.confWritesRow.domain false w args ∧ laidMetH Tryz.prog laidC w) ∧ sizedMet enc Tryz.prog Tryz.f7 (OpenSpec.ofChange Rows.confWritesSpec) false w args) (Rows.confWritesSpec.post enc Tryz.prog Tryz.f7 false true false false) := by
  refine returns_and_shaped (C := Tryz.checked) (X := fun w _ => laidMetH Tryz.prog laidC w) (fun _ _ _ hh h => h.of_heap hh) own started (by kernel_rfl) Tryz.func7
    (ChangeSpec.witness_shaped (enc := enc) (C := Tryz.checked) (os := os) (X := fun w _ => laidMetH Tryz.prog laidC w) false (witC os) #[.string ByteArray.empty] 8 (witC_os os) (witC_shaped os _) (by kernel_rfl) (by kernel_rfl) (by kernel_rfl) (witC_met os _)) ?_
  intro W base args ds gs before hval0 hW hcnd hsz0 hL hsh _
  have hsz : (DataW.weightsEach Tryz.prog (Tryz.f7.params.toList ++ Rows.confWritesSpec.plain.varTypes Tryz.prog) (ds ++ gs)).all (· ≤ reachBytes) = true := hsz0
  have hval : ∀ (j : Nat) t v, Tryz.f7.params[j]? = some t → args[j]? = some v → Value.okWide Tryz.prog W .any base t v := hval0
  have hW' := hW
  obtain ⟨p, q, hA0, hV, rfl, hfz, hnd⟩ := hW
  have hA : DataW.TrodAll enc Tryz.prog W 0 (fun _ => true) true Tryz.f7.params.toList args.toList ds p := hA0
  rw [Tryz.params7] at hA hval hsz
  obtain ⟨v0, vs0, d0, ds0, p0, q0, hargs, rfl, rfl, h0, r0⟩ := trodAll_cons hA
  obtain ⟨rfl, rfl, rfl⟩ := trodAll_nil r0
  obtain rfl : args = #[v0] := by cases args; simp_all
  obtain ⟨rfl, rfl⟩ := trodVars_none hV
  obtain ⟨a0, rfl, rfl, rfl, y0⟩ := open_string Tryz.underlying9 (hval 0 9 v0 rfl rfl) h0
  have w0 : a0.size ≤ 140737488351232 := by
    have z := sized_string hsz (j := 0) (t := 9) rfl rfl
    rw [Array.length_toList] at z
    exact z
  clear hA0 hval0 hsz0 hsz
  refine (confWrites_walk a0 W w0 (envC_of_laid hL hsh)).mono fun e W' ⟨he, bel⟩ => ?_
  subst he
  exact ⟨_, rfl, _, _, _, [], _, [], hW', trodAll_mk1 (shut_bool Tryz.underlying4 _), (trodAll_cons_mk (shut_string Tryz.underlying9 y0) trodAll_mk0), rfl, bel.frame _, fun h => by cases h⟩
theorem confWrites_holds : Rows.ConfWritesSaid :=
  OpenClaim.holds_of_wide 7 Tryz.f7 rfl rfl rfl rfl rfl rfl rfl ⟨rfl, rfl, rfl, rfl, rfl⟩ rfl rfl rfl rfl rfl (by kernel_rfl) Tryz.func7 (by kernel_rfl)
    (of_decide_eq_true (by kernel_rfl)) (by unfold Func.isWrapper; first | (rw [if_pos (by decide +kernel)]; kernel_rfl) | (rw [if_neg (by decide +kernel)]; exact ⟨rfl, rfl⟩))
    (fun os started H enc _ => confWrites_lifted os started H enc)
theorem confWrites_card : Rows.ConfWritesCardSaid :=
  Claim7.holds_tied_plain_at .later [] [.data, .data, .data, .data, .handle, .sentinel, .sentinel, .pinned] true (true, "7b8443a463c5f55e62ab8a3865c3a1529c07887fc89f48a1587c2956179633cb") true
    confWrites_holds (fun _ h => by cases h) (by kernel_rfl) (fun _ h => by cases h) confWrites_row_tie rfl ⟨rfl, rfl⟩ (by kernel_rfl) rfl
    (fun f fn hf hfn => by
      obtain rfl : f = 7 := Option.some.inj ((show Tryz.prog.funcNamed "wharfinger/wharfingerlaw13.ConfWrites" = some 7 by kernel_rfl).symm.trans hf) |>.symm
      obtain rfl : fn = Tryz.f7 := (Option.some.inj (Tryz.func7.symm.trans hfn)).symm
      exact ⟨by kernel_rfl, fun j t ht => by
        rw [Tryz.params7] at ht
        have hm : t ∈ [9] := by simpa using Array.mem_of_getElem? ht
        have hall : ([9].all fun u => !Tryz.prog.wantsStandIn u) = true := by kernel_rfl
        exact (show Tryz.prog.wantsStandIn t = false by simpa using List.all_eq_true.1 hall t hm)⟩)
    (by kernel_rfl)
#print axioms confWrites_card
end Go.Proofs.YtddnfooachibiaaGreatDoor

