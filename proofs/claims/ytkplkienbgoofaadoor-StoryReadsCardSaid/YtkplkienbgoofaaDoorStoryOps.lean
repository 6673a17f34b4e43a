/-
  Maps of texts: looked up, stored to, deleted from, copied; apply.
-/
import Derived.Test.YtkplkienbgoofaaDoorStoryKeys
import Derived.WalkSpells
set_option linter.unusedVariables false
set_option linter.unusedSimpArgs false
namespace Go.Proofs.YtkplkienbgoofaaDoor
open Go.RowKit Go.Maps Go.WideMaps Go.WideAt
theorem zeroText (w : World) : (zeroValue 9).run Tryd.prog w = .ok (.string ⟨#[]⟩) w := by kernel_rfl
theorem FMapAt.put {w : World} {b : Nat} {M : FM} (h : FMapAt w b M) {t e : TypeId} (ht : Tryd.prog.underlying t = some (.map 9 e)) (hn : M.length ≤ 1000000) (p d : ByteArray) (hp : p.size ≤ maxLen) :
    ∃ w', (Instr.mapUpdate t (.map (some b)) (.string p) (.string d)).run Tryd.prog w = .ok () w' ∧ FMapAt w' b (putM M p d) ∧ w.grownBy w' (some b) := by
  obtain ⟨m, h1, h2⟩ := h
  obtain ⟨w', hrun, hm, hg⟩ := h1.store strKeyed ht (by unfold maxLen; omega) (key := .string p) (.string d) (keyOf_string_mk Tryd.underlying9 hp)
  have h3 := h2.put p d
  have h4 := hm.tight strKeyed (ks := (putM M p d).map fun x => keyS x.1) (fun kl _ hs => h3.keys kl hs)
  rw [List.length_map] at h4
  exact ⟨w', hrun, ⟨_, h4, h3⟩, hg⟩
theorem FMapAt.del {w : World} {b : Nat} {M : FM} (h : FMapAt w b M) {t e : TypeId} (ht : Tryd.prog.underlying t = some (.map 9 e)) (p : ByteArray) (hp : p.size ≤ maxLen) (ty : TypeId) :
    ∃ w', (Builtin.delete_ #[t, 9] ty #[.map (some b), .string p]).run Tryd.prog w = .ok (.tuple #[]) w' ∧ FMapAt w' b (delM M p) ∧ w.grownBy w' (some b) := by
  obtain ⟨m, h1, h2⟩ := h
  obtain ⟨w', hrun, hm, hg⟩ := h1.drop strKeyed ht (key := .string p) (keyOf_string_mk Tryd.underlying9 hp) ty
  have h3 := h2.del p
  have h4 := hm.tight strKeyed (ks := (delM M p).map fun x => keyS x.1) (fun kl _ hs => h3.keys kl hs)
  rw [List.length_map] at h4
  exact ⟨w', hrun, ⟨_, h4, h3⟩, hg⟩
theorem FMapAt.look {w : World} {b : Nat} {M : FM} (h : FMapAt w b M) {t : TypeId} (ht : Tryd.prog.underlying t = some (.map 9 9)) (p : ByteArray) (hp : p.size ≤ maxLen) :
    (Instr.lookup t (.map (some b)) (.string p) false).run Tryd.prog w = .ok (.string ((getM M p).getD ⟨#[]⟩)) w := by
  obtain ⟨m, h1, h2⟩ := h
  rw [h1.look strKeyed ht (zeroText w) (key := .string p) (keyOf_string_mk Tryd.underlying9 hp)]
  have e : (m (keyS p)).getD (.string ⟨#[]⟩) = .string ((getM M p).getD ⟨#[]⟩) := by
    rw [h2.val p]
    cases getM M p <;> rfl
  exact congrArg (fun v => Result.ok v w) e
theorem FMapAt.look_ok {w : World} {b : Nat} {M : FM} (h : FMapAt w b M) {t : TypeId} (ht : Tryd.prog.underlying t = some (.map 9 9)) (p : ByteArray) (hp : p.size ≤ maxLen) :
    (Instr.lookup t (.map (some b)) (.string p) true).run Tryd.prog w = .ok (.tuple #[.string ((getM M p).getD ⟨#[]⟩), .bool (getM M p).isSome]) w := by
  obtain ⟨m, h1, h2⟩ := h
  rw [h1.look_ok strKeyed ht (zeroText w) (key := .string p) (keyOf_string_mk Tryd.underlying9 hp)]
  have e : (m (keyS p)).getD (.string ⟨#[]⟩) = .string ((getM M p).getD ⟨#[]⟩) ∧ (m (keyS p)).isSome = (getM M p).isSome := by
    rw [h2.val p]
    cases getM M p <;> exact ⟨rfl, rfl⟩
  exact congrArg (fun v => Result.ok v w) (show Value.tuple #[(m (keyS p)).getD (.string ⟨#[]⟩), .bool (m (keyS p)).isSome] = _ by rw [e.1, e.2])
theorem FMapAt.grown {w w' : World} {b : Nat} {M : FM} {row : Option Nat} (h : FMapAt w b M) (hg : w.grownBy w' row) (hne : some b ≠ row) : FMapAt w' b M := h.elim fun m ⟨h1, h2⟩ => ⟨m, h1.grown hg hne, h2⟩
/-- A new one. -/
theorem fmap_new (w : World) : FMapAt (w.alloc (.map #[] 0)) w.heap.size [] := ⟨_, mapAs_new w Tryd.prog 9, filesOf_none⟩
/-- maps.Clone. -/
theorem fmap_clone (b : Nat) (M : FM) (w : World) (hm : FMapAt w b M) :
    Calls Tryd.prog 15 #[.map (some b)] w fun e w' => e = .returned (.map (some w.heap.size)) ∧ FMapAt w' w.heap.size M ∧ Below w.heap.size w w' := by
  obtain ⟨m, ⟨D, h1, h2⟩, h3⟩ := hm
  refine (Tryd.maps_Clone_owns 9 valR b M.length D w h1).mono ?_
  rintro e w' ⟨rfl, h4, _, h5⟩
  exact ⟨rfl, ⟨m, ⟨D, h4, h2⟩, h3⟩, h5⟩
/-- The map behind files that were sent. -/
def applyM (M : FM) (fs : List ChgD) : FM := fs.foldl (fun M c => if c.2.2 then delM M c.1 else putM M c.1 (strOfNums c.2.1)) M
theorem applyM_snoc (M : FM) (fs : List ChgD) (c : ChgD) : applyM M (fs ++ [c]) = if c.2.2 then delM (applyM M fs) c.1 else putM (applyM M fs) c.1 (strOfNums c.2.1) := by simp [applyM, List.foldl_append]
theorem delM_len (M : FM) (p : ByteArray) : (delM M p).length ≤ M.length := List.length_filter_le _ _
theorem applyM_len (M : FM) (fs : List ChgD) : (applyM M fs).length ≤ M.length + fs.length := by
  induction fs generalizing M with
  | nil => simp [applyM]
  | cons c t ih =>
    show (applyM (if c.2.2 then delM M c.1 else putM M c.1 (strOfNums c.2.1)) t).length ≤ _
    have h1 := ih (if c.2.2 then delM M c.1 else putM M c.1 (strOfNums c.2.1))
    have h2 : (if c.2.2 then delM M c.1 else putM M c.1 (strOfNums c.2.1)).length ≤ M.length + 1 := by
      split
      · have := delM_len M c.1; omega
      · have := delM_len M c.1
        rw [putM, List.length_append, List.length_singleton]
        omega
    rw [List.length_cons]
    omega
/-- An event: whether files were sent, by whom, the version, the module, the root, the files. -/
abbrev EvD := Bool × Int × Int × ByteArray × ByteArray × List ChgD
def evV (e : EvD) (A : Option Addr) (c : Nat) : Value := .agg #[.bool e.1, .int .i64 e.2.1, .int .i64 e.2.2.1, .string e.2.2.2.1, .string e.2.2.2.2.1, .slice A e.2.2.2.2.2.length c]
set_option maxRecDepth 100000 in
set_option maxHeartbeats 4000000 in
theorem apply_any (b : Nat) (M : FM) (pu : Bool) (who ver : Int) (mo ro : ByteArray) (fs : List ChgD) (A : Option Addr) (c : Nat) (w : World) (hm : FMapAt w b M) (hM : M.length ≤ 100000) (hfl : fs.length ≤ 1000) (hfr : ChgRow w A fs) (hfs : ∀ x ∈ fs, x.1.size ≤ maxLen ∧ x.2.1.length ≤ 300000) :
    Calls Tryd.prog 10 #[.map (some b), .agg #[.bool pu, .int .i64 who, .int .i64 ver, .string mo, .string ro, .slice A fs.length c]] w fun e w' => ∃ b', e = .returned (.map (some b')) ∧ FMapAt w' b' (applyM M fs) ∧ w.heap.size ≤ b' ∧ Below w.heap.size w w' := by
  have hb0 := below_one w (.cells #[.bool pu, .int .i64 who, .int .i64 ver, .string mo, .string ro, .slice A fs.length c] 28)
  have HM0 := Lib.hid (hm.below hb0)
  have HB0 := Lib.hid hb0
  have HFR := Lib.hid hfr
  have HFS := Lib.hid hfs
  clear hm hb0 hfr hfs
  go_enter Tryd.func10, Tryd.ntmps10
  go_wp2_with fail
  refine (fmap_clone b M _ HM0.out).mono ?_
  rintro e w1 ⟨rfl, hm1, hb1⟩
  generalize hW0 : w.alloc (.cells #[.bool pu, .int .i64 who, .int .i64 ver, .string mo, .string ro, .slice A fs.length c] 28) = W0 at *
  have hw0 : w.heap.size < W0.heap.size := by rw [← hW0]; simp
  have hnew := heap_alloc_new w (.cells #[.bool pu, .int .i64 who, .int .i64 ver, .string mo, .string ro, .slice A fs.length c] 28)
  rw [hW0] at hnew
  have y5 : w1.cell? ⟨w.heap.size, 5, none⟩ = some (.slice A fs.length c) := cell_below hb1 (by simp [World.cell?, hnew])
  have HM1 := Lib.hid hm1
  have HB1 := Lib.hid (below_from HB0.out hb1)
  have heq := run_eql_map_nil (P := Tryd.prog) w1 38 9 9 (some W0.heap.size) Tryd.underlying38
  clear hm1 hb1 hW0 hnew
  go_wp2_with fail
  go_loopw [16] (fun i wr => ∃ k : Nat, k ≤ fs.length ∧ i = .int .i64 k ∧ FMapAt wr W0.heap.size (applyM M (fs.take k)) ∧ Below w.heap.size w wr) (fun i _ => fs.length - (intOf i).toNat)
  case atStart => exact ⟨0, by omega, rfl, HM1.out, HB1.out⟩
  case round =>
    obtain ⟨k, hk, rfl, hm, hb⟩ := hrel
    obtain ⟨wk, rfl⟩ : ∃ W, W = wr := ⟨wr, rfl⟩
    have HM := Lib.hid hm
    have HB := Lib.hid hb
    have hbs := hb.size
    clear hm hb
    by_cases hlt : k < fs.length
    · obtain ⟨bb, off, A', c', rfl, x1, x2, x3, x4, x5, x6⟩ := (HFR.out.below HB.out) k hlt
      obtain ⟨ch, hch⟩ : ∃ ch, ch = fs[k] := ⟨_, rfl⟩
      have hpc := HFS.out ch (hch ▸ List.getElem_mem hlt)
      have htk : fs.take (k + 1) = fs.take k ++ [ch] := by rw [List.take_succ_eq_append_getElem hlt, hch]
      have hlen : (applyM M (fs.take k)).length ≤ 101000 := Nat.le_trans (applyM_len M _) (by rw [List.length_take]; omega)
      rw [← hch] at x1 x2 x3 x4 x5 x6
      have HTK := Lib.hid htk
      clear hch htk
      obtain ⟨p, d, gn⟩ := ch
      simp only at x1 x2 x3 x4 x5 x6 hpc
      have hb1 := below_one wk (.cells #[.string p, .slice A' d.length c', .bool gn] 42)
      have hm1 := HM.out.below hb1
      have hmlt := HM.out.lt
      have hps := hpc.1
      have cv := conv_row c' (x5.below hb1) x6
      have hsz1 := hb1.size
      have HB1' := Lib.hid (below_from HB.out hb1)
      obtain ⟨w2, hrun2, hm2, hg2⟩ := hm1.put Tryd.underlying38 (by omega) p (strOfNums d) hps
      obtain ⟨w3, hrun3, hm3, hg3⟩ := hm1.del Tryd.underlying38 p hps 0
      have HM2 := Lib.hid hm2
      have HM3 := Lib.hid hm3
      have HB2 := Lib.hid (HB1'.out.grown hg2 (Nat.le_trans hbs hsz1) (fun j hj => by cases hj; omega))
      have HB3 := Lib.hid (HB1'.out.grown hg3 (Nat.le_trans hbs hsz1) (fun j hj => by cases hj; omega))
      clear x5 x6 hpc hb1 hm1 hm2 hm3 hg2 hg3
      cases gn with
      | true =>
        go_wp2_with fail
        go_roundw
        case rel => exact ⟨k + 1, by omega, by go_num, by rw [HTK.out, applyM_snoc]; exact HM3.out, HB3.out⟩
        case measure => simp [intOf]; omega
      | false =>
        go_wp2_with fail
        go_roundw
        case rel => exact ⟨k + 1, by omega, by go_num, by rw [HTK.out, applyM_snoc]; exact HM2.out, HB2.out⟩
        case measure => simp [intOf]; omega
    · obtain rfl : k = fs.length := by omega
      have hm := HM.out
      rw [List.take_length] at hm
      have HM2 := Lib.hid hm
      clear hm
      go_wp2_with fail
      go_ret
      exact ⟨_, rfl, HM2.out, Nat.le_of_lt hw0, HB.out⟩
end Go.Proofs.YtkplkienbgoofaaDoor
