/-
  The frame of conf's rows: what their listed variables give a walk, and a world in which they are laid.
-/
import Derived.Test.YtddnfooachibiaaGreatDoorRowKit
import Derived.Test.YtddnfooachibiaaGreatDoorConfNumC
import Derived.Lib.LaidU8
import Derived.Lib.LaidTab
import Derived.LaidLaws
set_option linter.unusedVariables false
set_option linter.unusedSimpArgs false
namespace Go.Proofs.YtddnfooachibiaaGreatDoor
open Go.ChangeShapes Go.WideShapes Go.ChangeAt Go.RowKit
def laidC : List (String × DataW Unit) := [("math/bits.deBruijn32tab", Rows.laid_math_bits_deBruijn32tab), ("math/bits.deBruijn64tab", Rows.laid_math_bits_deBruijn64tab), ("internal/strconv.uint64pow10", Rows.laid_internal_strconv_uint64pow10), ("unicode/utf8.acceptRanges", Rows.laid_unicode_utf8_acceptRanges), ("errors.errorType", Rows.laid_errors_errorType), ("strconv.ErrRange", Rows.laid_strconv_ErrRange), ("strconv.ErrSyntax", Rows.laid_strconv_ErrSyntax), ("unicode/utf8.first", Rows.laid_unicode_utf8_first)]
def laidC7 : List (String × DataW Unit) := [("math/bits.deBruijn32tab", Rows.laid_math_bits_deBruijn32tab), ("math/bits.deBruijn64tab", Rows.laid_math_bits_deBruijn64tab), ("internal/strconv.uint64pow10", Rows.laid_internal_strconv_uint64pow10), ("unicode/utf8.acceptRanges", Rows.laid_unicode_utf8_acceptRanges), ("strconv.ErrRange", Rows.laid_strconv_ErrRange), ("strconv.ErrSyntax", Rows.laid_strconv_ErrSyntax), ("unicode/utf8.first", Rows.laid_unicode_utf8_first)]
theorem pow10_data : (Rows.laid_internal_strconv_uint64pow10 : DataW Unit) = Lib.tabData .u64 Lib.pow10Tab := by kernel_rfl
theorem errVar_of {W : World} {n : String} {g : Nat} {name : String} {d : DataW Unit} (hg : Tryz.prog.globalNamed n = some g) (ht : (Tryz.prog.globals[g]?).map (·.type) = some 27) (h : Lib.VarReads Tryz.prog W n (.iface name d)) : ∃ t p, W.cell? ⟨g, 0, none⟩ = some (.iface t p) := by
  obtain ⟨g', t', cs, fuel, p, h1, h2, h3, h4⟩ := h
  obtain rfl := Option.some.inj (hg.symm.trans h1)
  obtain rfl := Option.some.inj (ht.symm.trans h2)
  obtain ⟨f', u, v, hcs, _, _⟩ := iface_of_trod Tryz.underlying27 h4
  refine ⟨u, v, ?_⟩
  have := World.var?_cell hg h3 0
  rw [this]
  have e : cs[0]? = cs.toList[0]? := by simp
  rw [e, hcs]; rfl
theorem envC_of_laid {W : World} (h : laidMetH Tryz.prog laidC W) (hsh : W.ShapedOpen Tryz.prog) : EnvC W := by
  have h' : laidMet Tryz.prog laidC7 W ∧ handlesMet Tryz.prog [("errors.errorType", Rows.laid_errors_errorType)] W := h
  obtain ⟨name, u, ty, e1, e2, e3, e4, e5⟩ := h'.2 _ (List.mem_singleton.2 rfl)
  have en : name = [101, 114, 114, 111, 114] := (Option.some.inj e1).symm
  subst en
  obtain rfl := Option.some.inj (et_rt.symm.trans e2)
  have hm : ty ∈ (List.range 208).filter fun t => Tryz.prog.rowNamed t [101, 114, 114, 111, 114] := List.mem_filter.2 ⟨List.mem_range.2 (by rw [← et_size]; exact e3), e4⟩
  rw [et_row] at hm
  obtain rfl := List.mem_singleton.1 hm
  have hh : typeHandle Tryz.prog 27 = .pointer (some ⟨9, 27, none⟩) := by kernel_rfl
  rw [hh] at e5
  have het : W.cell? ⟨0, 0, none⟩ = some (.iface 127 (.agg #[.pointer (some ⟨9, 27, none⟩)])) := by simpa using World.var?_cell et_glob e5 0
  have hp : Lib.VarReads Tryz.prog W "internal/strconv.uint64pow10" (Lib.tabData .u64 Lib.pow10Tab) := pow10_data ▸ Lib.laidMet.reads h'.1 (by simp [laidC7])
  have hs : Lib.VarReads Tryz.prog W "strconv.ErrSyntax" Rows.laid_strconv_ErrSyntax := Lib.laidMet.reads h'.1 (by simp [laidC7])
  have hr : Lib.VarReads Tryz.prog W "strconv.ErrRange" Rows.laid_strconv_ErrRange := Lib.laidMet.reads h'.1 (by simp [laidC7])
  refine ⟨⟨het, envM_of_shaped hsh⟩, ?_, errVar_of (by kernel_rfl) (by kernel_rfl) hs, errVar_of (by kernel_rfl) (by kernel_rfl) hr⟩
  obtain ⟨g', t', cs, fuel, p, h1, h2, h3, h4⟩ := hp
  have hg : Tryz.prog.globalNamed "internal/strconv.uint64pow10" = some 4 := by kernel_rfl
  obtain rfl := Option.some.inj (hg.symm.trans h1)
  have ht : (Tryz.prog.globals[4]?).map (·.type) = some 166 := by kernel_rfl
  obtain rfl := Option.some.inj (ht.symm.trans h2)
  unfold Lib.TabIs
  rw [h3, ← Lib.cells_of_tab Tryz.underlying166 Tryz.underlying146 (by kernel_rfl) (by kernel_rfl) h4]
noncomputable def witC (os : Os) : World := (wit0 os).layVars Tryz.prog laidC7
theorem witC_os (os : Os) : (witC os).os = os := World.layVars_os _ _ _
theorem witC_fits (os : Os) : (wit0 os).layFits Tryz.prog laidC7 [] = true := by kernel_rfl
theorem witC_ifaces (os : Os) : (wit0 os).layIfaces Tryz.prog laidC7 (witC os) = true := by kernel_rfl
theorem witC_met (os : Os) (args : Array Value) : laidMetH Tryz.prog laidC ((witC os).forCall (fun _ _ => 0) ⟨#[], args, []⟩).memory := by
  have h2 : laidMet Tryz.prog laidC7 (witC os) := laidMet_layVars (w0 := wit0 os) ["math/bits.deBruijn32tab", "math/bits.deBruijn64tab", "internal/strconv.uint64pow10", "unicode/utf8.acceptRanges", "strconv.ErrRange", "strconv.ErrSyntax", "unicode/utf8.first"] [] (by kernel_rfl) (witC_fits os) (witC_ifaces os) LaidIn.none
  exact laidMetH_of_parts (h2.of_heap (by simp [World.memory, World.forCall, Input.heap])) (by kernel_rfl)
theorem witC_shaped (os : Os) (args : Array Value) : ((witC os).forCall (fun _ _ => 0) ⟨#[], args, []⟩).Shaped Tryz.prog := World.shaped_of_ZipB (by kernel_rfl) (by kernel_rfl)
end Go.Proofs.YtddnfooachibiaaGreatDoor
