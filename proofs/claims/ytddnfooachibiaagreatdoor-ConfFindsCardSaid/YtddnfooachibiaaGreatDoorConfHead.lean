/-
  The head of conf's laws: one module with one user is read.
-/
import Derived.Test.YtddnfooachibiaaGreatDoorConfParse
set_option linter.unusedVariables false
set_option linter.unusedSimpArgs false
namespace Go.Proofs.YtddnfooachibiaaGreatDoor
open Go.RowKit Go.Maps Go.WideMaps Go.WideAt
def headTxt : ByteArray := ⟨#[35, 32, 97, 108, 108, 10, 91, 104, 111, 109, 101, 93, 10, 114, 111, 111, 116, 32, 61, 32, 97, 47, 98, 10, 119, 114, 105, 116, 101, 32, 61, 32, 121, 101, 115, 10, 117, 115, 101, 114, 32, 61, 32, 97, 110, 110, 58, 115, 101, 99, 114, 101, 116]⟩
def headMod : ModC := ⟨⟨#[104, 111, 109, 101]⟩, ⟨#[97, 47, 98]⟩, true, 16, 262144, [(⟨#[97, 110, 110]⟩, ⟨#[115, 101, 99, 114, 101, 116]⟩)]⟩
theorem head_parse : parseC headTxt = (.nil, [headMod]) := by kernel_rfl
/-- What is read of a text that is right. -/
theorem parse_right {s : ByteArray} {ms : List ModC} {w w' : World} {e : Ending} (hp : ParsePost s w e w') (h : parseC s = (.nil, ms)) : Below w.heap.size w w' ∧ ∃ A c q, q.map MRow.md = ms ∧ e = .returned (.tuple #[.agg #[.slice A q.length c], .nilIface]) ∧ ModsIn w' (.slice A q.length c) q := by
  obtain ⟨hb, ⟨t, u, g, h1, h2, _, _⟩ | ⟨cv, q, h1, rfl, h3⟩⟩ := hp
  · rw [h] at h1
    injection h1 with h1 _
    exact absurd h1.symm h2
  · rw [h] at h1
    injection h1 with _ h1
    obtain ⟨A, c, rfl, _⟩ := h3.row.slice
    exact ⟨hb, A, c, q, h1.symm, rfl, h3⟩
theorem parse_wrong {s : ByteArray} {g : GErr} {w w' : World} {e : Ending} (hp : ParsePost s w e w') (h : parseC s = (g, [])) (hg : g ≠ .nil) : Below w.heap.size w w' ∧ ∃ t u, e = .returned (.tuple #[.agg #[.slice none 0 0], .iface t u]) ∧ ErrV w' (.iface t u) g := by
  obtain ⟨hb, ⟨t, u, g', h1, h2, rfl, h4⟩ | ⟨cv, q, h1, _, _⟩⟩ := hp
  · rw [h] at h1
    injection h1 with h1 _
    subst h1
    exact ⟨hb, t, u, rfl, h4⟩
  · rw [h] at h1
    injection h1 with h1 _
    exact absurd h1 hg
theorem one_of {q : List MRow} {m : ModC} (h : q.map MRow.md = [m]) : ∃ r, q = [r] ∧ r.md = m := by
  cases q with
  | nil => cases h
  | cons r t =>
    cases t with
    | nil =>
      rw [List.map_cons, List.map_nil] at h
      injection h with h _
      exact ⟨r, rfl, h⟩
    | cons a b =>
      rw [List.map_cons, List.map_cons] at h
      injection h with _ h
      cases h
set_option maxRecDepth 100000 in
set_option maxHeartbeats 2000000 in
theorem parses_any (w : World) (hg : EnvC w) : Calls Tryz.prog 9 #[] w fun e w' => e = .returned (.bool true) ∧ Below w.heap.size w w' := by
  have HP := Lib.hid (cparse_any headTxt w (by decide) hg)
  rw [headTxt] at HP
  clear hg
  go_enter Tryz.func9, Tryz.ntmps9
  go_wp2_with fail
  refine HP.out.mono ?_
  intro e w1 hp
  obtain ⟨hb1, A, c, q, hq, rfl, hm⟩ := parse_right (s := headTxt) hp head_parse
  clear hp
  obtain ⟨r, rfl, hr⟩ := one_of hq
  obtain ⟨md, uv⟩ := r
  replace hr : md = headMod := hr
  subst hr
  obtain ⟨Au, cu, huv, _⟩ := (hm.us ⟨headMod, uv⟩ (List.mem_singleton.2 rfl)).slice
  replace huv : uv = .slice Au 1 cu := huv
  subst huv
  have hb2 := below_one w1 (.cells #[.slice A 1 c] 25)
  have HB2 := Lib.hid (below_from hb1 hb2)
  have HF := Lib.hid (cfind_any (.slice A 1 c) [⟨headMod, .slice Au 1 cu⟩] ⟨#[104, 111, 109, 101]⟩ (w1.alloc (.cells #[.slice A 1 c] 25)) (by simp) (hm.below hb2))
  have HM := Lib.hid (hm.below hb2)
  clear hb1 hb2 hm hq
  go_wp2_with fail
  refine HF.out.mono ?_
  rw [show findQ [(⟨headMod, .slice Au 1 cu⟩ : MRow)] ⟨#[104, 111, 109, 101]⟩ = some ⟨headMod, .slice Au 1 cu⟩ from rfl]
  rintro e w3 ⟨rfl, hb3⟩
  simp only [findV, MRow.val, headMod]
  have hb4 := below_one w3 (.cells #[.string ⟨#[104, 111, 109, 101]⟩, .string ⟨#[97, 47, 98]⟩, .bool true, .int .i64 16, .int .i64 262144, .slice Au 1 cu] 41)
  have HB4 := Lib.hid (below_from HB2.out (below_from hb3 hb4))
  have HS := Lib.hid (secret_any ⟨headMod, .slice Au 1 cu⟩ ⟨#[97, 110, 110]⟩ (w3.alloc (.cells #[.string ⟨#[104, 111, 109, 101]⟩, .string ⟨#[97, 47, 98]⟩, .bool true, .int .i64 16, .int .i64 262144, .slice Au 1 cu] 41)) (show (1 : Nat) ≤ 100000 by decide) (((HM.out.us ⟨headMod, .slice Au 1 cu⟩ (List.mem_singleton.2 rfl)).below hb3).below hb4))
  have hn4 := heap_alloc_new w3 (.cells #[.string ⟨#[104, 111, 109, 101]⟩, .string ⟨#[97, 47, 98]⟩, .bool true, .int .i64 16, .int .i64 262144, .slice Au 1 cu] 41)
  clear hb3 hb4
  go_wp2_with fail
  refine HS.out.mono ?_
  rw [show secretC headMod.us ⟨#[97, 110, 110]⟩ = some ⟨#[115, 101, 99, 114, 101, 116]⟩ from by kernel_rfl]
  rintro e w5 ⟨rfl, hb5⟩
  simp only [secV]
  have hn5 := block_below hn4 hb5
  have y1 : w5.cell? ⟨w3.heap.size, 1, none⟩ = some (.string ⟨#[97, 47, 98]⟩) := by rw [cell_of_row _ _ 1 _ _ _ hn5]; rfl
  have y2 : w5.cell? ⟨w3.heap.size, 2, none⟩ = some (.bool true) := by rw [cell_of_row _ _ 2 _ _ _ hn5]; rfl
  have y3 : w5.cell? ⟨w3.heap.size, 3, none⟩ = some (.int .i64 16) := by rw [cell_of_row _ _ 3 _ _ _ hn5]; rfl
  have y4 : w5.cell? ⟨w3.heap.size, 4, none⟩ = some (.int .i64 262144) := by rw [cell_of_row _ _ 4 _ _ _ hn5]; rfl
  have HB5 := Lib.hid (below_from HB4.out hb5)
  have e1 := txt_eq (k := ⟨#[115, 101, 99, 114, 101, 116]⟩) (l := [115, 101, 99, 114, 101, 116]) rfl
  have e2 := txt_eq (k := ⟨#[97, 47, 98]⟩) (l := [97, 47, 98]) rfl
  clear hn4 hn5 hb5
  go_wp2_with fail
  go_ret
  exact ⟨rfl, HB5.out⟩
end Go.Proofs.YtddnfooachibiaaGreatDoor
