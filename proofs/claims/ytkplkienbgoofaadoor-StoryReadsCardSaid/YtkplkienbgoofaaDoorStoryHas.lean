/-
  has: are files that were had just those of a map, beneath a root?
-/
import Derived.Test.YtkplkienbgoofaaDoorStoryOps
import Derived.Test.YtkplkienbgoofaaDoorPathFns
import Derived.Deep.CutRange
set_option linter.unusedVariables false
set_option linter.unusedSimpArgs false
namespace Go.Proofs.YtkplkienbgoofaaDoor
open Go.RowKit Go.Maps Go.WideMaps Go.WideAt
theorem FMapAt.block {w w' : World} {b : Nat} {M : FM} (h : FMapAt w b M) (hb : w'.heap[b]? = w.heap[b]?) : FMapAt w' b M := h.elim fun m ⟨h1, h2⟩ => ⟨m, h1.block hb, h2⟩
def allE (mo ro : ByteArray) : ByteArray := if ro.toList.isEmpty then mo else mo ++ ⟨#[47]⟩ ++ ro
def underE (mo ro p : ByteArray) : Bool := (beneathB (allE mo ro) p).2 || (!ro.toList.isEmpty && p.toList == (allE mo ro).toList)
def sameO : Option ByteArray → ByteArray → Bool
  | some x, y => x.toList == y.toList
  | none, _ => false
/-- Are files, from one on, just those of a map, each once? -/
def goesE (M : FM) (mo al : ByteArray) : List ByteArray → List ChgD → Bool
  | _, [] => true
  | seen, c :: t => !memB (mo ++ ⟨#[47]⟩ ++ c.1) seen && ((beneathB al (mo ++ ⟨#[47]⟩ ++ c.1)).2 || (mo ++ ⟨#[47]⟩ ++ c.1).toList == al.toList) && sameO (getM M (mo ++ ⟨#[47]⟩ ++ c.1)) (strOfNums c.2.1) && goesE M mo al (seen ++ [mo ++ ⟨#[47]⟩ ++ c.1]) t
def hasM (M : FM) (mo ro : ByteArray) (fs : List ChgD) : Bool := decide (((M.map Prod.fst).filter (underE mo ro)).length = fs.length) && goesE M mo (allE mo ro) [] fs
set_option maxRecDepth 100000 in
set_option maxHeartbeats 8000000 in
theorem has_any (b : Nat) (M : FM) (pu : Bool) (who ver : Int) (mo ro : ByteArray) (fs : List ChgD) (A : Option Addr) (c : Nat) (w : World) (hm : FMapAt w b M) (hM : M.length ≤ 100000) (hfl : fs.length ≤ 1000) (hfr : ChgRow w A fs) (hfs : ∀ x ∈ fs, x.1.size ≤ 1000 ∧ x.2.1.length ≤ 300000) (hmo : mo.size ≤ 1000) (hro : ro.size ≤ 1000) :
    Calls Tryd.prog 11 #[.map (some b), .agg #[.bool pu, .int .i64 who, .int .i64 ver, .string mo, .string ro, .slice A fs.length c]] w fun e w' => e = .returned (.bool (hasM M mo ro fs)) ∧ Below w.heap.size w w' := by
  have hb0 := below_one w (.cells #[.bool pu, .int .i64 who, .int .i64 ver, .string mo, .string ro, .slice A fs.length c] 28)
  have HM0 := Lib.hid (hm.below hb0)
  have HONCE : Hid ((M.map Prod.fst).Nodup) := Lib.hid (hm.elim fun m ⟨_, h⟩ => h.once)
  have HB0 := Lib.hid hb0
  have HFR := Lib.hid hfr
  have HFS := Lib.hid hfs
  clear hm hb0 hfr hfs
  go_enter Tryd.func11, Tryd.ntmps11
  go_upto_if 23 with fail
  have hnew := heap_alloc_new w (.cells #[.bool pu, .int .i64 who, .int .i64 ver, .string mo, .string ro, .slice A fs.length c] 28)
  generalize hW0 : w.alloc (.cells #[.bool pu, .int .i64 who, .int .i64 ver, .string mo, .string ro, .slice A fs.length c] 28) = W0 at *
  have y3 : W0.cell? ⟨w.heap.size, 3, none⟩ = some (.string mo) := by simp [World.cell?, hnew]
  have y4 : W0.cell? ⟨w.heap.size, 4, none⟩ = some (.string ro) := by simp [World.cell?, hnew]
  have y5 : W0.cell? ⟨w.heap.size, 5, none⟩ = some (.slice A fs.length c) := by simp [World.cell?, hnew]
  have hw0 : w.heap.size < W0.heap.size := by rw [← hW0]; simp
  have hals : (allE mo ro).size ≤ 3000 := by
    unfold allE
    split
    · omega
    · simp only [ByteArray.size_append]
      have : (⟨#[47]⟩ : ByteArray).size = 1 := rfl
      omega
  clear hW0 hnew
  go_cut [5] from 24 to 30 (fun av wc => av = .string (allE mo ro) ∧ wc = W0)
  case first =>
    go_wp2_with fail
    all_goals
      go_meet
      case rel =>
        refine ⟨congrArg Value.string ?_, rfl⟩
        unfold allE
        split <;> simp_all
  case rest =>
    obtain ⟨rfl, rfl⟩ := hcut
    obtain ⟨al, hal⟩ : ∃ al, al = allE mo ro := ⟨_, rfl⟩
    rw [← hal] at hals ⊢
    have HAL := Lib.hid hal
    clear hal
    generalize (!ro.toList.isEmpty) = re
    go_wp2_with fail
    refine (paths_any b M wc hM HM0.out).mono ?_
    rintro e w1 ⟨A1, c1, K, rfl, hkc, hpo, _, htx, hb1⟩
    have HPO := Lib.hid hpo
    have HTX := Lib.hid htx
    have hKl : K.length ≤ 100000 := by rw [hpo.len]; exact hM
    have HM1 := Lib.hid (HM0.out.below hb1)
    have HB1 := Lib.hid (below_from HB0.out hb1)
    have z3 := cell_below hb1 y3
    have z4 := cell_below hb1 y4
    have z5 := cell_below hb1 y5
    clear hpo htx hb1 y3 y4 y5
    obtain ⟨cnt, hcnt⟩ : ∃ cnt : Nat → Nat, cnt = fun k => ((K.take k).filter (underE mo ro)).length := ⟨_, rfl⟩
    have hc0 : cnt 0 = 0 := by rw [hcnt]; simp
    have hcle : ∀ k, cnt k ≤ 100000 := fun k => by
      rw [hcnt]
      refine Nat.le_trans (List.length_filter_le _ _) ?_
      rw [List.length_take]
      omega
    have hcs : ∀ k (h : k < K.length), cnt (k + 1) = cnt k + if (beneathB al K[k]).2 || (!ro.toList.isEmpty && K[k].toList == al.toList) then 1 else 0 := fun k h => by
      rw [hcnt]
      show ((K.take (k + 1)).filter (underE mo ro)).length = _
      rw [List.take_succ_eq_append_getElem h, List.filter_append, List.length_append]
      congr 1
      rw [List.filter_cons]
      have hu : underE mo ro K[k] = ((beneathB al K[k]).2 || (!ro.toList.isEmpty && K[k].toList == al.toList)) := by rw [underE, HAL.out]
      rw [hu]
      split <;> simp
    have hcend : cnt K.length = ((M.map Prod.fst).filter (underE mo ro)).length := by
      rw [hcnt]
      show ((K.take K.length).filter (underE mo ro)).length = _
      rw [List.take_length]
      have hKn : K.Nodup := HPO.out.rising.imp (fun {a b} h e => by rw [e] at h; exact List.lt_irrefl _ h)
      exact ((nodup_perm hKn HONCE.out (fun p => HPO.out.mem p)).filter _).length_eq
    have HC0 := Lib.hid hc0
    have HCLE := Lib.hid hcle
    have HCS := Lib.hid hcs
    have HCE := Lib.hid hcend
    clear hcnt hc0 hcle hcs hcend
    go_wp2_with fail
    go_loop [6, 33] (fun n i => ∃ k : Nat, k ≤ K.length ∧ i = .int .i64 k ∧ n = .int .i64 ((cnt k : Nat) : Int)) (fun _ i => K.length - (intOf i).toNat)
    case atStart => exact ⟨0, by omega, rfl, by rw [HC0.out]; rfl⟩
    case round =>
      obtain ⟨k, hk, rfl, rfl⟩ := hrel
      have hck := HCLE.out k
      by_cases hlt : k < K.length
      · obtain ⟨ad, rfl, htx⟩ := HTX.out (by omega)
        have x1 := htx k hlt
        have hstep := HCS.out k hlt
        obtain ⟨p, hp⟩ : ∃ p, p = K[k] := ⟨_, rfl⟩
        rw [← hp] at x1 hstep
        have HST := Lib.hid hstep
        clear htx hstep hp
        go_wp2_with fail
        refine (beneath_any al p w1 (by omega)).mono ?_
        rintro e w' ⟨rfl, rfl⟩
        obtain ⟨n0, hn0⟩ : ∃ n0, n0 = cnt k := ⟨_, rfl⟩
        rw [← hn0] at hck ⊢
        go_wp2_with fail
        all_goals
          go_round
          case rel =>
            refine ⟨k + 1, by omega, by go_num, ?_⟩
            rw [HST.out, ← hn0]
            split <;> simp_all
          case measure => simp [intOf]; omega
      · obtain rfl : k = K.length := by omega
        by_cases hcq : cnt K.length = fs.length
        · have HG : Hid (hasM M mo ro fs = goesE M mo al [] fs) := Lib.hid (by rw [hasM, ← HCE.out, decide_eq_true hcq, Bool.true_and, HAL.out])
          have hcq2 : ((cnt K.length : Int) == (fs.length : Int)) = true := by rw [hcq]; simp
          have HZ := Lib.hid hcq2
          have hmm := @run_makeMap Tryd.prog
          have HMS := Lib.hid (mapAs_new w1 Tryd.prog 9)
          have hbm := below_one w1 (.map #[] 0)
          have Z51 := Lib.hid (cell_below hbm z5)
          have Z31 := Lib.hid (cell_below hbm z3)
          have hlt1 : w.heap.size < w1.heap.size := World.block_lt_of_cell? w1 _ z5
          have HM2 := Lib.hid (HM1.out.below hbm)
          have HB2 := Lib.hid (below_from HB1.out hbm)
          have hszm : w1.heap.size < (w1.alloc (.map #[] 0)).heap.size := by simp
          have hsz1 : w.heap.size ≤ w1.heap.size := HB1.out.size
          rw [hcq]
          clear hcq hcq2 hck hbm z3 z4
          go_wp2_with fail
          generalize hW2 : w1.alloc (.map #[] 0) = W2 at *
          clear hW2 z5
          go_loopw [66] (fun i wr => ∃ (k : Nat) (ms : Lit → Option Value), k ≤ fs.length ∧ i = .int .i64 k ∧ MapAs wr Tryd.prog 9 w1.heap.size k ms ∧ SeenIs ms ((fs.take k).map fun c => mo ++ ⟨#[47]⟩ ++ c.1) ∧ goesE M mo al [] fs = goesE M mo al ((fs.take k).map fun c => mo ++ ⟨#[47]⟩ ++ c.1) (fs.drop k) ∧ Below w1.heap.size W2 wr) (fun i _ => fs.length - (intOf i).toNat)
          case atStart => exact ⟨0, _, by omega, rfl, HMS.out, seen_none, rfl, (Below.refl _ _).mono (Nat.le_of_lt hszm)⟩
          case round =>
            obtain ⟨k, ms, hk, rfl, hms, hseen, hgo, hbr⟩ := hrel
            obtain ⟨wk, rfl⟩ : ∃ W, W = wr := ⟨wr, rfl⟩
            have hbt : Below w.heap.size w wk := HB2.out.trans (hbr.mono hsz1)
            have HBT := Lib.hid hbt
            have HBR := Lib.hid hbr
            have hszk : W2.heap.size ≤ wk.heap.size := hbr.size
            by_cases hlt : k < fs.length
            · obtain ⟨bb, off, A', c', rfl, x1, x2, x3, x4, x5, x6⟩ := (HFR.out.below hbt) k hlt
              obtain ⟨ch, hch⟩ : ∃ ch, ch = fs[k] := ⟨_, rfl⟩
              have hpc := HFS.out ch (hch ▸ List.getElem_mem hlt)
              obtain ⟨seen, hsn⟩ : ∃ seen, seen = (fs.take k).map fun c => mo ++ ⟨#[47]⟩ ++ c.1 := ⟨_, rfl⟩
              have htk : (fs.take (k + 1)).map (fun c => mo ++ ⟨#[47]⟩ ++ c.1) = seen ++ [mo ++ ⟨#[47]⟩ ++ ch.1] := by rw [List.take_succ_eq_append_getElem hlt, List.map_append, hsn, hch]; rfl
              have hdr : fs.drop k = ch :: fs.drop (k + 1) := by rw [List.drop_eq_getElem_cons hlt, hch]
              rw [← hsn] at hseen hgo
              rw [hdr] at hgo
              rw [← hch] at x1 x2 x3 x4 x5 x6
              have HTK := Lib.hid htk
              have y3 : wk.cell? ⟨w.heap.size, 3, none⟩ = some (.string mo) := (hbr.cell hlt1).trans Z31.out
              have hlt2 : w.heap.size < wk.heap.size := World.block_lt_of_cell? wk _ y3
              have hmk : FMapAt wk b M := HM2.out.block (hbr.block b HM1.out.lt)
              clear hch htk hdr hsn
              obtain ⟨p0, d, gn⟩ := ch
              simp only at x1 x2 x3 x4 x5 x6 hpc hgo
              have hb1 := below_one wk (.cells #[.string p0, .slice A' d.length c', .bool gn] 42)
              have hps := hpc.1
              have cv := conv_row c' (x5.below hb1) x6
              obtain ⟨p, hp⟩ : ∃ p, p = mo ++ ⟨#[47]⟩ ++ p0 := ⟨_, rfl⟩
              have hpz : p.size ≤ 3000 := by
                rw [hp]
                simp only [ByteArray.size_append]
                have : (⟨#[47]⟩ : ByteArray).size = 1 := rfl
                omega
              have HP := Lib.hid hp
              have hgo2 : goesE M mo al seen ((p0, d, gn) :: fs.drop (k + 1)) = (!memB p seen && ((beneathB al p).2 || p.toList == al.toList) && sameO (getM M p) (strOfNums d) && goesE M mo al (seen ++ [p]) (fs.drop (k + 1))) := by rw [goesE, ← hp]
              rw [hgo2] at hgo
              have HGO := Lib.hid hgo
              have hpm : p.size ≤ maxLen := by unfold maxLen; omega
              have hl1 := (hmk.below hb1).look_ok Tryd.underlying38 p hpm
              have hms1 := hms.below hb1
              have hkey := keyOf_string_mk (P := Tryd.prog) Tryd.underlying9 (s := p) hpm
              have hl2 := hms1.look strKeyed Tryd.underlying62 (zeroBool _) (key := .string p) hkey
              have hl2' : (Instr.lookup 62 (.map (some w1.heap.size)) (.string p) false).run Tryd.prog (wk.alloc (.cells #[.string p0, .slice A' d.length c', .bool gn] 42)) = .ok (.bool (memB p seen)) (wk.alloc (.cells #[.string p0, .slice A' d.length c', .bool gn] 42)) := by
                rw [hl2]
                exact congrArg (fun v => Result.ok v (wk.alloc (.cells #[.string p0, .slice A' d.length c', .bool gn] 42))) (hseen.look p)
              obtain ⟨w2, hrun2, hm2, hg2⟩ := hms1.store strKeyed Tryd.underlying62 (by unfold maxLen; omega) (key := .string p) (.bool true) hkey
              have HMS2 := Lib.hid hm2
              have HSN2 : Hid (SeenIs (upd ms (keyS p) (.bool true)) (seen ++ [p])) := Lib.hid (hseen.put p)
              have HBA := Lib.hid ((hbr.trans (hb1.mono (Nat.le_of_lt (Nat.lt_of_lt_of_le hszm hszk)))))
              have HBX := Lib.hid (hbt.trans (hb1.mono (Nat.le_trans hsz1 (Nat.le_of_lt (Nat.lt_of_lt_of_le hszm hszk)))))
              have hsza := hb1.size
              have HB2' : Hid (Below w1.heap.size W2 w2) := Lib.hid (HBA.out.grown hg2 (by omega) (fun j hj => by cases hj; exact Nat.le_refl _))
              have HTK2 : Hid ((fs.take (k + 1)).map (fun c => mo ++ ⟨#[47]⟩ ++ c.1) = seen ++ [p]) := Lib.hid (by rw [HTK.out, HP.out])
              clear hms hseen hgo hgo2 hbr hbt x5 x6 hpc hb1 hmk hms1 hl2 hm2 hg2 hkey hsza
              go_wp2_with fail
              rw [← hp]
              clear hp
              refine (beneath_any al p _ (by omega)).mono ?_
              rintro e w' ⟨rfl, rfl⟩
              cases hgm : getM M p with
              | none =>
                rw [hgm] at hl1
                have HF : Hid (hasM M mo ro fs = false) := Lib.hid (by rw [HG.out, HGO.out, hgm]; simp [sameO])
                clear hgm
                go_wp2_with fail
                all_goals
                  go_ret
                  exact ⟨ret_bool HF.out.symm, HBX.out⟩
              | some x =>
                rw [hgm] at hl1
                have HGM : Hid (goesE M mo al [] fs = (!memB p seen && ((beneathB al p).2 || p.toList == al.toList) && (x.toList == (strOfNums d).toList) && goesE M mo al (seen ++ [p]) (fs.drop (k + 1)))) := Lib.hid (by rw [HGO.out, hgm]; rfl)
                clear hgm
                go_wp2_with fail
                all_goals first
                  | (go_ret
                     exact ⟨ret_bool (by rw [HG.out, HGM.out]; simp_all), HBX.out⟩)
                  | (go_roundw
                     case rel => exact ⟨k + 1, _, by omega, by go_num, HMS2.out, by rw [HTK2.out]; exact HSN2.out, by rw [HTK2.out, HGM.out]; simp_all, HB2'.out⟩
                     case measure => simp [intOf]; omega)
            · obtain rfl : k = fs.length := by omega
              have hgo2 := hgo
              rw [List.drop_length] at hgo2
              have HF : Hid (hasM M mo ro fs = true) := Lib.hid (by rw [HG.out, hgo2]; rfl)
              clear hgo hgo2 hms hseen hbt
              go_wp2_with fail
              go_ret
              exact ⟨ret_bool HF.out.symm, HBT.out⟩
        · have hcq2 : ((cnt K.length : Int) == (fs.length : Int)) = false := by rw [beq_eq_false_iff_ne]; omega
          have HG : Hid (hasM M mo ro fs = false) := Lib.hid (by rw [hasM, ← HCE.out, decide_eq_false hcq, Bool.false_and])
          go_wp2_with fail
          go_ret
          exact ⟨ret_bool HG.out.symm, HB1.out⟩
end Go.Proofs.YtkplkienbgoofaaDoor
