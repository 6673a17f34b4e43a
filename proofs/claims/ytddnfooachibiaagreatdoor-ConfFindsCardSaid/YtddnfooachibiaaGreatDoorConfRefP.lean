/-
  The reference's Parse.
-/
import Derived.Test.YtddnfooachibiaaGreatDoorConfRefT
import Derived.Test.YtddnfooachibiaaGreatDoorConfRefC
import Derived.Deep.RegionHeld3
import Derived.OwnWalk
set_option linter.unusedVariables false
set_option linter.unusedSimpArgs false
namespace Go.Proofs.YtddnfooachibiaaGreatDoor
open Go.RowKit Go.Maps Go.WideMaps Go.WideAt
def seenOf (q : List RMRow) : List ByteArray := match q.getLast? with
  | some r => r.seen
  | none => []
theorem seenOf_snoc (pre : List RMRow) (r : RMRow) : seenOf (pre ++ [r]) = r.seen := by simp [seenOf]
def RParsePost (s : ByteArray) (w : World) (e : Ending) (w' : World) : Prop := Below w.heap.size w w' ∧ ((∃ A c q, parseC s = (.nil, q.map RMRow.md) ∧ e = .returned (.tuple #[.slice A q.length c, .int .i64 0, .int .i64 0]) ∧ RModsIn w' (.slice A q.length c) q) ∨ (∃ p x, parseC s = (.fault p x, []) ∧ x ≠ 0 ∧ e = .returned (.tuple #[.slice none 0 0, .int .i64 x, .int .i64 p])))
theorem r_cases (q : List RMRow) : q = [] ∨ ∃ pre r, q = pre ++ [r] := by
  rcases List.eq_nil_or_concat q with h | ⟨pre, r, h⟩
  · exact .inl h
  · exact .inr ⟨pre, r, by simpa using h⟩
theorem row_prefix {w : World} {A : Option Addr} {c n m : Nat} {xs ys : List Value} (h : RowIn w (.slice A n c) n (xs ++ ys)) (hm : m ≤ n) : RowIn w (.slice A m c) m xs := by
  obtain ⟨A', c', e, hc, hr⟩ := h
  injection e with e1 e2 e3
  subst e1 e3
  refine ⟨A, c, rfl, by omega, fun hx => ?_⟩
  obtain ⟨b, off, e, hlt, hcell⟩ := hr (by rw [List.length_append]; omega)
  refine ⟨b, off, e, hlt, fun j hj => ?_⟩
  have := hcell j (by rw [List.length_append]; omega)
  rw [this, List.getElem_append_left hj]
theorem setC_err {m : ModC} {seen : List ByteArray} {k v : ByteArray} {pre : List ModC} {x : Int} (h : setC m seen k v = .error x) : (setC m seen k v).map (fun p => (⟨pre ++ [p.1], p.2⟩ : StC)) = .error x := by rw [h]; rfl
theorem setC_fine {m m' : ModC} {seen s' : List ByteArray} {k v : ByteArray} {pre : List ModC} (h : setC m seen k v = .ok (m', s')) : (setC m seen k v).map (fun p => (⟨pre ++ [p.1], p.2⟩ : StC)) = .ok ⟨pre ++ [m'], s'⟩ := by rw [h]; rfl
theorem ret3_err {x p : Int} {X P : Int} (h1 : X = x) (h2 : P = p) : Ending.returned (.tuple #[.slice none 0 0, .int .i64 X, .int .i64 P]) = .returned (.tuple #[.slice none 0 0, .int .i64 x, .int .i64 p]) := by rw [h1, h2]
theorem ne_flag {x : Int} (h : x ≠ 0) : (x != 0) = true := by rw [bne, Bool.not_eq_true', beq_eq_false_iff_ne]; exact h
structure RAt (wk W : World) (g : Nat) (r : RMRow) : Prop where
  heap : W.heap[g]? = some (Obj.cells #[.string r.md.name, .string r.md.root, .bool r.md.wr, .int .i64 r.md.sl, .int .i64 r.md.qu, r.uv, r.sv] 45 (0, 0))
  us : UsersIn W r.uv r.md.us
  seen : SeenIn W r.sv r.seen
  bel : Below wk.heap.size wk W
theorem rat_put {wk W2 w7 : World} {r r' : RMRow} {o0 o1 o2 o3 o4 o5 o6 : Value} (hu0 : UsersIn wk r.uv r.md.us) (hs0 : SeenIn wk r.sv r.seen) (hn : w7.heap[wk.heap.size]? = some (Obj.cells #[o0, o1, o2, o3, o4, o5, o6] 45 (0, 0)))
    (hu : UsersIn w7 r'.uv r'.md.us) (hs : SeenIn w7 r'.sv r'.seen) (hnu : RowNew W2 r.uv r.md.us r'.uv r'.md.us) (hns : RowNew W2 r.sv r.seen r'.sv r'.seen) (hW2 : wk.heap.size < W2.heap.size) (hb : Below wk.heap.size wk w7) :
    RAt wk (w7.setCells wk.heap.size 0 [.string r'.md.name, .string r'.md.root, .bool r'.md.wr, .int .i64 r'.md.sl, .int .i64 r'.md.qu, r'.uv, r'.sv]) wk.heap.size r' := by
  have hr := ret_seven (Nat.le_refl _) hb hn r'.md.name r'.md.root r'.md.wr r'.md.sl r'.md.qu r'.uv r'.sv
  refine ⟨put_seven hn _ _ _ _ _ _ _, ?_, ?_, hr.2.1⟩
  · exact row_keep hu0 hu hnu (fun e => ⟨by rw [e], by rw [e]⟩) hW2 hr.2.2 hr.2.1
  · exact row_keep hs0 hs hns (fun e => ⟨by rw [e], by rw [e]⟩) hW2 hr.2.2 hr.2.1
theorem rat_new {wk w7 : World} {r' : RMRow} (hu : UsersIn w7 r'.uv r'.md.us) (hs : SeenIn w7 r'.sv r'.seen) (hb : Below wk.heap.size wk w7) :
    RAt wk (w7.alloc (.cells #[.string r'.md.name, .string r'.md.root, .bool r'.md.wr, .int .i64 r'.md.sl, .int .i64 r'.md.qu, r'.uv, r'.sv] 45)) w7.heap.size r' :=
  ⟨heap_alloc_new w7 _, RowIn.below hu (below_one w7 _), RowIn.below hs (below_one w7 _), below_from hb (below_one w7 _)⟩
theorem setC_grow {m m' : ModC} {seen s' : List ByteArray} {k v : ByteArray} (h : setC m seen k v = .ok (m', s')) : s'.length ≤ seen.length + 1 := by
  unfold setC at h
  split at h
  · cases hu : userC m v with
    | error e => rw [hu] at h; cases h
    | ok x => rw [hu] at h; injection h with h; injection h with _ h; rw [← h]; omega
  · split at h
    · cases h
    · cases hu : putC m k v with
      | error e => rw [hu] at h; cases h
      | ok x => rw [hu] at h; injection h with h; injection h with _ h; rw [← h]; simp
theorem whole_ne : ∀ {ms : List ModC} {i : Nat} {before : List ModC} {p x : Int}, wholeC i before ms = .fault p x → x ≠ 0
  | [], i, before, p, x, h => by cases h
  | m :: t, i, before, p, x, h => by
    rw [wholeC] at h
    split at h
    · injection h with _ h; rw [← h]; decide
    · split at h
      · injection h with _ h; rw [← h]; decide
      · exact whole_ne h
set_option maxRecDepth 100000 in
set_option maxHeartbeats 1500000 in
theorem rparse_any (s : ByteArray) (w : World) (hs : s.size ≤ 140737488351232) : Calls Tryz.prog 11 #[.string s] w (RParsePost s w) := by
  by_cases hbig : 8192 < s.size
  · have hi : (8192 : Int) < s.size := by omega
    have HR : Hid (parseC s = (.fault 0 2, [])) := Lib.hid (by rw [parseC, if_pos hbig])
    go_enter Tryz.func11, Tryz.ntmps11
    go_wp2_with fail
    go_ret3
    exact ⟨Below.refl _ _, .inr ⟨0, 2, HR.out, by decide, rfl⟩⟩
  · have hle : ¬ (8192 : Int) < s.size := by omega
    have hs8 : s.size ≤ 8192 := by omega
    have HSP := Lib.hid (rlines_any s w (by omega))
    obtain ⟨Ls, hLs⟩ : ∃ L, L = linesL s.data.toList := ⟨_, rfl⟩
    have HLE : Hid (∀ x ∈ Ls, x.length ≤ 8192 ∧ (10 : UInt8) ∉ x) := Lib.hid (fun x hx => by
      rw [hLs] at hx
      have := linesL_le _ x hx
      have h2 : s.data.toList.length = s.size := by simp
      exact ⟨by omega, linesL_clean _ x hx⟩)
    have hmany : Ls.length ≤ 8193 := by
      have := linesL_many s.data.toList
      have h2 : s.data.toList.length = s.size := by simp
      rw [hLs]; omega
    rw [← hLs] at HSP
    have HBAD : Hid (∀ k x, parseL 0 ⟨[], []⟩ Ls = .error (k, x) → parseC s = (.fault k x, [])) := Lib.hid (fun k x h => parseC_bad hs8 (hLs ▸ h))
    have HWH : Hid (∀ st g, parseL 0 ⟨[], []⟩ Ls = .ok st → wholeC 0 [] st.ms = g → g ≠ .nil → parseC s = (g, [])) := Lib.hid (fun st g h h2 h3 => parseC_whole hs8 (hLs ▸ h) h2 h3)
    have HOK : Hid (∀ st, parseL 0 ⟨[], []⟩ Ls = .ok st → wholeC 0 [] st.ms = .nil → parseC s = (.nil, st.ms)) := Lib.hid (fun st h h2 => parseC_ok hs8 (hLs ▸ h) h2)
    clear hLs
    go_enter Tryz.func11, Tryz.ntmps11
    go_wp2_with fail
    refine HSP.out.mono ?_
    rintro e w3 ⟨v3, rfl, hown3, hb3⟩
    have hown3' : w3.ownsRow w.heap.size 9 1 v3 (Ls.map bA).length (strs (Ls.map bA)) := by rw [List.length_map]; exact hown3
    obtain ⟨A3, c3, hv3, hc3, ht3⟩ := own_row hown3'
    subst hv3
    rw [List.length_map] at hc3 ⊢
    have HT3 := Lib.hid ht3
    have HB3 := Lib.hid hb3
    clear hown3 hown3' hb3 ht3
    go_wp2_with fail
    go_loopw [5, 7] (fun ov i wr => ∃ (k : Nat) (q : List RMRow) (A : Option Addr) (c : Nat), k ≤ Ls.length ∧ i = .int .i64 k ∧ ov = .slice A q.length c ∧ RModsIn wr (.slice A q.length c) q ∧ Below w3.heap.size w3 wr ∧ parseL 0 ⟨[], []⟩ Ls = parseL k ⟨q.map RMRow.md, seenOf q⟩ (Ls.drop k) ∧ GoodSt ⟨q.map RMRow.md, seenOf q⟩ ∧ (seenOf q).length ≤ k) (fun _ i _ => Ls.length - (intOf i).toNat)
    case atStart => exact ⟨0, [], none, 0, by omega, rfl, rfl, ⟨RowIn.nil _ _ _, (fun r h => by cases h), (fun r h => by cases h)⟩, Below.refl _ _, rfl, ⟨(fun m h => by cases h), by decide, List.nodup_nil⟩, by simp [seenOf]⟩
    case round =>
      obtain ⟨k, q, A, c, hk, rfl, rfl, hq, hbw, hgo, hgood, hsn⟩ := hrel
      obtain ⟨wk, rfl⟩ : ∃ W, W = wr := ⟨wr, rfl⟩
      have HQ := Lib.hid hq
      have HB := Lib.hid hbw
      have HGO := Lib.hid hgo
      have HGOOD := Lib.hid hgood
      have hqn : q.length ≤ 8 := by simpa using hgood.most
      clear hq hgo hgood
      by_cases hlt : k < Ls.length
      · obtain ⟨ad, rfl, hT⟩ := (HT3.out.below hbw) (by rw [List.length_map]; omega)
        have hcl := hT k (by rw [List.length_map]; exact hlt)
        rw [List.getElem_map] at hcl
        obtain ⟨hrl, hr10⟩ := HLE.out Ls[k] (List.getElem_mem hlt)
        have HSTEP : Hid (∀ st', lineT ⟨q.map RMRow.md, seenOf q⟩ (Lib.trimB Ls[k] 32) = .ok st' → parseL 0 ⟨[], []⟩ Ls = parseL (k + 1) st' (Ls.drop (k + 1)) ∧ GoodSt st') := Lib.hid (fun st' h => ⟨HGO.out.trans (parse_step hlt h), lineC_keep HGOOD.out hr10 h⟩)
        have HFELL : Hid (∀ x, lineT ⟨q.map RMRow.md, seenOf q⟩ (Lib.trimB Ls[k] 32) = .error x → parseC s = (.fault k x, [])) := Lib.hid (fun x h => HBAD.out k x (HGO.out.trans (parse_fell hlt h)))
        have htl := trimB_len Ls[k] 32
        have HTR := Lib.hid (fun W => rtrim_any (bA Ls[k]) W (by rw [bA_size]; omega))
        have HAG := Lib.hid (trimB_again Ls[k])
        obtain ⟨raw, hrw⟩ : ∃ x, x = bA Ls[k] := ⟨_, rfl⟩
        rw [bA_list] at HTR
        rw [← hrw] at hcl HTR
        obtain ⟨l, hl⟩ : ∃ x, x = Lib.trimB Ls[k] 32 := ⟨_, rfl⟩
        rw [← hl] at HTR HSTEP HFELL htl HAG
        have hll : l.length ≤ 8192 := by omega
        obtain ⟨ln, hln⟩ : ∃ x, x = bA l := ⟨_, rfl⟩
        have hlz : ln.size = l.length := by rw [hln, bA_size]
        rw [← hln] at HTR
        have HLZ := Lib.hid hlz
        have hlnz : ln.size ≤ 8192 := by omega
        have HLL : Hid (ln.data.toList = l) := Lib.hid (by rw [hln]; rfl)
        have HFI := Lib.hid (fun W => rfind_any ln 61 W (by omega))
        rw [HLL.out] at HFI
        clear hT hrl hr10 htl hrw hl hln hlz
        go_wp2_with fail
        refine (HTR.out _).mono ?_
        rintro e w4 ⟨rfl, h4⟩
        replace h4 := h4.symm
        subst h4
        clear hcl
        by_cases e0 : l = []
        · have he : ln.toList.isEmpty = true := empty_of (by rw [HLZ.out, e0]; rfl)
          have HN := Lib.hid (HSTEP.out _ (lineT_skip (.inl e0)))
          clear e0
          go_wp2_with fail
          go_roundw
          case rel => exact ⟨k + 1, q, A, c, by omega, by go_num, rfl, HQ.out, HB.out, HN.out.1, HN.out.2, by omega⟩
          case measure => simp [intOf]; omega
        · have hz0 : 0 < ln.size := by
            rw [HLZ.out]
            exact List.length_pos_iff.2 e0
          have he : ln.toList.isEmpty = false := some_of (by omega)
          have hhd : l.head? = some ln[0] := by rw [← HLL.out]; exact head_at hz0
          by_cases e1 : ln[0] = 35
          · have b35 : ((ln[0].toNat : Int) == 35) = true := by rw [beq_iff_eq, e1]; rfl
            have HN := Lib.hid (HSTEP.out _ (lineT_skip (.inr (by rw [hhd, e1]))))
            clear e0 e1 hhd
            go_wp2_with fail
            go_roundw
            case rel => exact ⟨k + 1, q, A, c, by omega, by go_num, rfl, HQ.out, HB.out, HN.out.1, HN.out.2, by omega⟩
            case measure => simp [intOf]; omega
          · have b35 : ((ln[0].toNat : Int) == 35) = false := by rw [beq_eq_false_iff_ne]; intro h; exact e1 (UInt8.toNat_inj.1 (by simp; omega))
            by_cases e2 : ln[0] = 91
            · have b91 : ((ln[0].toNat : Int) == 91) = true := by rw [beq_iff_eq, e2]; rfl
              have HOP : Hid (lineT ⟨q.map RMRow.md, seenOf q⟩ l = openC ⟨q.map RMRow.md, seenOf q⟩ l) := Lib.hid (lineT_open (by rw [hhd, e2]))
              have HRO := Lib.hid (ropen_any A c q ln (seenOf q) wk hqn hz0 hlnz HQ.out)
              rw [HLL.out] at HRO
              clear e0 e1 e2 hhd
              go_wp2_with fail
              refine (HFI.out _).mono ?_
              rintro e w4 ⟨rfl, h4⟩
              replace h4 := h4.symm
              subst h4
              go_wp2_with fail
              refine HRO.out.mono ?_
              rintro e w5 ⟨hb5, ⟨x, hx, hx0, rfl⟩ | ⟨A', c', n, hx, rfl, hq5⟩⟩
              · have HRX := Lib.hid (HFELL.out x (HOP.out.trans hx))
                have HB5 := Lib.hid (below_from HB3.out (below_from HB.out hb5))
                have bx := ne_flag hx0
                have HX0 := Lib.hid hx0
                clear hb5 hx hx0
                go_wp2_with fail
                go_ret3
                exact ⟨HB5.out, .inr ⟨k, x, HRX.out, HX0.out, rfl⟩⟩
              · have HN := Lib.hid (HSTEP.out _ (HOP.out.trans hx))
                have HB5 := Lib.hid (below_from HB.out hb5)
                have HQ5 := Lib.hid hq5
                have HM5 : Hid ((q ++ [newR n]).map RMRow.md = q.map RMRow.md ++ [newMod n] ∧ seenOf (q ++ [newR n]) = [] ∧ (q ++ [newR n]).length = q.length + 1) := Lib.hid ⟨by simp [newR], by rw [seenOf_snoc]; rfl, by simp⟩
                clear hb5 hx hq5
                go_wp2_with fail
                go_roundw
                case rel => exact ⟨k + 1, q ++ [newR n], A', c', by omega, by go_num, by rw [HM5.out.2.2], by rw [HM5.out.2.2]; exact HQ5.out, HB5.out, by rw [HM5.out.1, HM5.out.2.1]; exact HN.out.1, by rw [HM5.out.1, HM5.out.2.1]; exact HN.out.2, by rw [HM5.out.2.1]; simp⟩
                case measure => simp [intOf]; omega
            · have b91 : ((ln[0].toNat : Int) == 91) = false := by rw [beq_eq_false_iff_ne]; intro h; exact e2 (UInt8.toNat_inj.1 (by simp; omega))
              have HND : Hid (l ≠ [] ∧ l.head? ≠ some 35 ∧ l.head? ≠ some 91) := Lib.hid ⟨e0, (by rw [hhd]; intro h; exact e1 (Option.some.inj h)), (by rw [hhd]; intro h; exact e2 (Option.some.inj h))⟩
              clear e0 e1 e2 hhd
              rcases find_cut 61 l with ⟨hfi, _, hcut⟩ | ⟨la, lb, hsp, _, hfi, hcut⟩
              · have HRX := Lib.hid (HFELL.out 130 (lineT_no HND.out.1 HND.out.2.1 HND.out.2.2 (by rw [hcut])))
                rw [hfi] at HFI
                have HB5 := Lib.hid (below_from HB3.out HB.out)
                clear hfi hcut
                go_wp2_with fail
                refine (HFI.out _).mono ?_
                rintro e w4 ⟨rfl, h4⟩
                replace h4 := h4.symm
                subst h4
                go_wp2_with fail
                go_ret3
                exact ⟨HB5.out, .inr ⟨k, 130, HRX.out, by decide, rfl⟩⟩
              · rw [hfi] at HFI
                have hneg : decide ((la.length : Int) < 0) = false := decide_eq_false (by omega)
                have hneg2 : ¬ (la.length : Int) < 0 := by omega
                rcases r_cases q with hq0 | ⟨pre, r, hq0⟩
                · subst hq0
                  have HRX := Lib.hid (HFELL.out 130 (lineT_none HND.out.1 HND.out.2.1 HND.out.2.2 (by rw [hcut]) rfl))
                  have HB5 := Lib.hid (below_from HB3.out HB.out)
                  clear hfi hcut hsp
                  go_wp2_with fail
                  refine (HFI.out _).mono ?_
                  rintro e w4 ⟨rfl, h4⟩
                  replace h4 := h4.symm
                  subst h4
                  go_wp2_with fail
                  go_ret3
                  exact ⟨HB5.out, .inr ⟨k, 130, HRX.out, by decide, rfl⟩⟩
                · subst hq0
                  have hlv : ln.size = la.length + 1 + lb.length := by
                    rw [← size_len, HLL.out, hsp]
                    simp
                    omega
                  have HKA : Hid ((ln.extract 0 la.length).data.toList = la) := Lib.hid (by rw [Lib.extract_upto, HLL.out, hsp]; simp)
                  have HVA : Hid ((ln.extract (la.length + 1) ln.size).data.toList = lb) := Lib.hid (by rw [Lib.extract_from, HLL.out, hsp]; simp [List.drop_append])
                  have hkt := key_trim HAG.out
                  have hvt := val_trim HAG.out
                  have HLT : Hid (lineT ⟨(pre ++ [r]).map RMRow.md, seenOf (pre ++ [r])⟩ l = (setC r.md r.seen (keyC l) (valC l)).map fun x => ⟨pre.map RMRow.md ++ [x.1], x.2⟩) := Lib.hid (by
                    rw [seenOf_snoc, show (pre ++ [r]).map RMRow.md = pre.map RMRow.md ++ [r.md] by simp]
                    exact lineT_set HND.out.1 HND.out.2.1 HND.out.2.2 (by rw [hcut]))
                  unfold keyC valC at HLT
                  rw [← hkt, ← hvt, hcut] at HLT
                  simp only at HLT
                  obtain ⟨kc, hkc⟩ : ∃ x, x = bA (Lib.trimB la 32) := ⟨_, rfl⟩
                  obtain ⟨vc, hvc⟩ : ∃ x, x = bA (Lib.trimB lb 32) := ⟨_, rfl⟩
                  have hvcz : vc.size ≤ 8192 := by
                    rw [hvc, bA_size]
                    have := trimB_len lb 32
                    omega
                  have HT1 : Hid (bA (Lib.trimB (ln.extract 0 la.length).data.toList 32) = kc) := Lib.hid (by rw [HKA.out, ← hkc])
                  have HT2 : Hid (bA (Lib.trimB (ln.extract (la.length + 1) ln.size).data.toList 32) = vc) := Lib.hid (by rw [HVA.out, ← hvc])
                  have HT := Lib.hid (fun (x : ByteArray) W (hx : x.size ≤ 140737488351232) => rtrim_any x W hx)
                  rw [← hkc, ← hvc] at HLT
                  have hmem : r ∈ pre ++ [r] := by simp
                  have HU0 := Lib.hid (HQ.out.us r hmem)
                  have HS0 := Lib.hid (HQ.out.seen r hmem)
                  have hrn : r.md.us.length ≤ 8 := (HGOOD.out.ms r.md (List.mem_map.2 ⟨r, hmem, rfl⟩)).most
                  have hrs : r.seen.length ≤ 9000 := by rw [seenOf_snoc] at hsn; omega
                  have hsn2 : r.seen.length ≤ k := by rw [seenOf_snoc] at hsn; exact hsn
                  have HSET := Lib.hid (fun W (hW : Below wk.heap.size wk W) => rset_any r kc vc W hvcz hrs hrn ((HQ.out.us r hmem).below hW) ((HQ.out.seen r hmem).below hW))
                  obtain ⟨b, off, hAe, x0, x1, x2, x3, x4, x5, x6⟩ : ∃ b off, A = some ⟨b, off, none⟩ ∧ wk.cell? ⟨b, off + pre.length * 7, none⟩ = some (.string r.md.name) ∧ wk.cell? ⟨b, off + pre.length * 7 + 1, none⟩ = some (.string r.md.root) ∧ wk.cell? ⟨b, off + pre.length * 7 + 2, none⟩ = some (.bool r.md.wr) ∧ wk.cell? ⟨b, off + pre.length * 7 + 3, none⟩ = some (.int .i64 r.md.sl) ∧ wk.cell? ⟨b, off + pre.length * 7 + 4, none⟩ = some (.int .i64 r.md.qu) ∧ wk.cell? ⟨b, off + pre.length * 7 + 5, none⟩ = some r.uv ∧ wk.cell? ⟨b, off + pre.length * 7 + 6, none⟩ = some r.sv := by
                    obtain ⟨A2, c2, e2, _, hcell⟩ := HQ.out.at_
                    injection e2 with e2 _ e3
                    subst e2 e3
                    obtain ⟨b, off, e, h⟩ := hcell pre.length (by simp)
                    simp only [List.getElem_concat_length] at h
                    exact ⟨b, off, e, h⟩
                  subst hAe
                  have hpl : (pre ++ [r]).length = pre.length + 1 := by simp
                  rw [hpl] at hqn HQ ⊢
                  have hl1 : la.length ≤ ln.size := by omega
                  have hl2 : la.length + 1 ≤ ln.size := by omega
                  have hw1 : IntKind.i64.wrap ((la.length : Int) + 1) = (la.length : Int) + 1 := IntWalk.i64_in _ (by omega)
                  have hw2 : ((la.length : Int) + 1).toNat = la.length + 1 := by omega
                  have hi1 : (la.length : Int) + 1 ≤ (ln.size : Int) := by omega
                  have hi0 : (0 : Int) ≤ (la.length : Int) + 1 := by omega
                  have b0n : (((pre.length + 1 : Nat) : Int) == 0) = false := by rw [beq_eq_false_iff_ne]; omega
                  have HLV := Lib.hid hlv
                  have hw3 : IntKind.i64.wrap (((pre.length + 1 : Nat) : Int) - 1) = (pre.length : Int) := by rw [IntWalk.i64_in _ (by omega)]; omega
                  have hcd : ((0 : Int) ≤ (pre.length : Int) ∧ (pre.length : Int) < ((pre.length + 1 : Nat) : Int)) = True := by simp; omega
                  have hw4 : IntKind.i64.wrap ((pre.length : Int) + 1 - 1) = (pre.length : Int) := by rw [IntWalk.i64_in _ (by omega)]; omega
                  have hw5 : IntKind.i64.wrap (pre.length : Int) = (pre.length : Int) := IntWalk.i64_in _ (by omega)
                  have hge0 : (0 : Int) ≤ (pre.length : Int) := by omega
                  have hlt2 : (pre.length : Int) < (pre.length : Int) + 1 := by omega
                  have hcd2 : ((0 : Int) ≤ (pre.length : Int) ∧ (pre.length : Int) < (pre.length : Int) + 1) = True := by simp; omega
                  obtain ⟨md, uv, sv, seen⟩ := r
                  obtain ⟨nm, rt, wb, sl, qu, us⟩ := md
                  obtain ⟨Au, cu, huv, -⟩ := (HQ.out.us _ hmem).slice
                  obtain ⟨As, cs, hsv, -⟩ := (HQ.out.seen _ hmem).slice
                  replace huv : uv = .slice Au us.length cu := huv
                  replace hsv : sv = .slice As seen.length cs := hsv
                  subst huv hsv
                  simp only at x0 x1 x2 x3 x4 x5 x6 HLT
                  have HSEV : Hid (∀ W, Below wk.heap.size wk W → W.cell? ⟨b, off + pre.length * 7, none⟩ = some (.string nm) ∧ W.cell? ⟨b, off + pre.length * 7 + 1, none⟩ = some (.string rt) ∧ W.cell? ⟨b, off + pre.length * 7 + 2, none⟩ = some (.bool wb) ∧ W.cell? ⟨b, off + pre.length * 7 + 3, none⟩ = some (.int .i64 sl) ∧ W.cell? ⟨b, off + pre.length * 7 + 4, none⟩ = some (.int .i64 qu) ∧ W.cell? ⟨b, off + pre.length * 7 + 5, none⟩ = some (.slice Au us.length cu) ∧ W.cell? ⟨b, off + pre.length * 7 + 6, none⟩ = some (.slice As seen.length cs)) := Lib.hid (fun W hW => ⟨cell_below hW x0, cell_below hW x1, cell_below hW x2, cell_below hW x3, cell_below hW x4, cell_below hW x5, cell_below hW x6⟩)
                  have HD1 : Hid (Below wk.heap.size wk wk.drew) := Lib.hid (Below.refl _ _).drew
                  have HD2 : Hid (Below wk.heap.size wk (wk.alloc zR7).drew) := Lib.hid (below_one wk zR7).drew
                  unfold zR7 at HD2
                  clear hfi hcut hsp hkt hvt hkc hvc hrn hrs hmem hsn hlv
                  go_wp2_with fail
                  refine (HFI.out _).mono ?_
                  rintro e w4 ⟨rfl, h4⟩
                  replace h4 := h4.symm
                  subst h4
                  go_upto_region 16 with fail
                  go_cut [11, 12] from 55 to 75 (fun p9 x9 W => ∃ (g : Nat) (r' : RMRow) (x : Int), p9 = .pointer (some ⟨g, 0, none⟩) ∧ x9 = .int .i64 x ∧ RAt wk W g r' ∧ ((∃ y, setC ⟨nm, rt, wb, sl, qu, us⟩ seen kc vc = .error y ∧ y ≠ 0 ∧ x = y) ∨ (setC ⟨nm, rt, wb, sl, qu, us⟩ seen kc vc = .ok (r'.md, r'.seen) ∧ x = 0)))
                  case first =>
                    go_region_held3 (fun w' => w'.cell? ⟨b, off + pre.length * 7, none⟩ = some (.string nm) ∧ w'.cell? ⟨b, off + pre.length * 7 + 1, none⟩ = some (.string rt) ∧ w'.cell? ⟨b, off + pre.length * 7 + 2, none⟩ = some (.bool wb) ∧ w'.cell? ⟨b, off + pre.length * 7 + 3, none⟩ = some (.int .i64 sl) ∧ w'.cell? ⟨b, off + pre.length * 7 + 4, none⟩ = some (.int .i64 qu) ∧ w'.cell? ⟨b, off + pre.length * 7 + 5, none⟩ = some (.slice Au us.length cu) ∧ w'.cell? ⟨b, off + pre.length * 7 + 6, none⟩ = some (.slice As seen.length cs))
                      (first
                        | with_reducible exact s7.out
                        | exact s9.out
                        | with_reducible exact HSEV.out _ HD1.out
                        | with_reducible exact HSEV.out _ HD2.out
                        | with_reducible exact HSEV.out _ (Below.refl _ _)
                        | with_reducible exact HSEV.out _ (below_from HB7.out (below_one _ _)))
                      (first
                        | (go_at_call 33
                           refine (HSET.out _ ?hb0).mono ?_
                           case hb0 => first | exact HD1.out | exact HD2.out
                           rintro e w7 ⟨hb7, ⟨⟨nm', rt', wb', sl', qu', us'⟩, uv', sv', seen'⟩, x, he, hu7, hs7, ⟨hnu, hns⟩, hx⟩
                           obtain ⟨Au7, cu7, huv7, -⟩ := hu7.slice
                           obtain ⟨As7, cs7, hsv7, -⟩ := hs7.slice
                           replace huv7 : uv' = .slice Au7 us'.length cu7 := huv7
                           replace hsv7 : sv' = .slice As7 seen'.length cs7 := hsv7
                           subst huv7 hsv7
                           replace he : e = .returned (.tuple #[.agg #[.string nm', .string rt', .bool wb', .int .i64 sl', .int .i64 qu', .slice Au7 us'.length cu7, .slice As7 seen'.length cs7], .int .i64 x]) := he
                           subst he
                           have hb7' : Below wk.heap.size wk w7 := (by first | exact below_from HD1.out hb7 | exact below_from HD2.out hb7)
                           have s7 := Lib.hid (HSEV.out w7 hb7')
                           have HB7 := Lib.hid hb7'
                           have HX := Lib.hid hx
                           first
                             | (have hn7 := block_below (show (World.drew (wk.alloc (.cells #[.string ⟨#[]⟩, .string ⟨#[]⟩, .bool false, .int .i64 0, .int .i64 0, .slice none 0 0, .slice none 0 0] 45))).heap[wk.heap.size]? = _ from heap_alloc_new wk (.cells #[.string ⟨#[]⟩, .string ⟨#[]⟩, .bool false, .int .i64 0, .int .i64 0, .slice none 0 0, .slice none 0 0] 45)) hb7
                                have hrat := rat_put (r' := ⟨⟨nm', rt', wb', sl', qu', us'⟩, .slice Au7 us'.length cu7, .slice As7 seen'.length cs7, seen'⟩) HU0.out HS0.out hn7 hu7 hs7 hnu hns (by simp) hb7'
                                obtain ⟨g, hg⟩ : ∃ g, g = wk.heap.size := ⟨_, rfl⟩
                                rw [← hg] at hn7 hrat
                                try rw [← hg]
                                obtain ⟨⟨y0, y1, y2, y3, y4, y5, y6⟩, f0, f1, f2, f3, f4, f5, f6⟩ := cells_seven hn7
                                have s9 := Lib.hid (HSEV.out _ hrat.bel)
                                have HRAT := Lib.hid hrat
                                clear hn7 hrat hg)
                             | (have hrat := rat_new (r' := ⟨⟨nm', rt', wb', sl', qu', us'⟩, .slice Au7 us'.length cu7, .slice As7 seen'.length cs7, seen'⟩) hu7 hs7 hb7'
                                have HRAT := Lib.hid hrat
                                clear hrat)
                           clear hu7 hs7 hx hb7 hb7' hnu hns x0 x1 x2 x3 x4 x5 x6)
                        | (go_at_call 30
                           refine (HT.out _ _ ?hz).mono ?_
                           case hz => simp; omega
                           first | rw [HT1.out] | rw [HT2.out]
                           rintro e w5 ⟨rfl, h5⟩
                           replace h5 := h5.symm
                           subst h5))
                    all_goals
                      go_wp2_with fail
                      go_meet
                      case rel => exact ⟨_, _, x, rfl, rfl, HRAT.out, HX.out⟩
                  case rest =>
                    obtain ⟨g, r', x, rfl, rfl, hrat, hset⟩ := hcut
                    obtain ⟨W9, rfl⟩ : ∃ W, W = wc := ⟨wc, rfl⟩
                    obtain ⟨⟨nm', rt', wb', sl', qu', us'⟩, uv', sv', seen'⟩ := r'
                    obtain ⟨Au9, cu9, huv9, -⟩ := hrat.us.slice
                    obtain ⟨As9, cs9, hsv9, -⟩ := hrat.seen.slice
                    replace huv9 : uv' = .slice Au9 us'.length cu9 := huv9
                    replace hsv9 : sv' = .slice As9 seen'.length cs9 := hsv9
                    subst huv9 hsv9
                    have hb9 := hrat.bel
                    obtain ⟨⟨y0, y1, y2, y3, y4, y5, y6⟩, -⟩ := cells_seven hrat.heap
                    simp only at y0 y1 y2 y3 y4 y5 y6 hset
                    have HRAT := Lib.hid hrat
                    have HSET9 := Lib.hid hset
                    have HB9 := Lib.hid hb9
                    have hrow9 := (HQ.out.below hb9).row
                    rw [flatR_snoc, List.length_append, List.length_singleton] at hrow9
                    have hpre : RModsIn W9 (.slice (some ⟨b, off, none⟩) pre.length c) pre := ⟨row_prefix (n := pre.length + 1) (m := pre.length) hrow9 (Nat.le_succ _), fun r hr => (HQ.out.us r (List.mem_append_left _ hr)).below hb9, fun r hr => (HQ.out.seen r (List.mem_append_left _ hr)).below hb9⟩
                    have HPRE := Lib.hid hpre
                    obtain ⟨j0, hj0, hjz0, hjz1, hjz2⟩ := info_parts infoRMod
                    have hszz := hb9.size
                    have hpc : (pre.length : Int) ≤ (c : Int) := by
                      obtain ⟨A8, c8, e8, h8⟩ := hrow9.slice
                      injection e8 with _ _ e8
                      omega
                    clear hrat hset hb9 hpre hrow9 x0 x1 x2 x3 x4 x5 x6 HSET HT HT1 HT2 HSEV HD1 HD2
                    rcases hbx : (x != 0) with _ | _
                    all_goals go_wp2_with (first | (at_builtin; (refine wpList_clone_row rfl (.tmp 77) (.tmp 82) 30 rfl 45 j0 (.agg #[.string ⟨#[]⟩, .string ⟨#[]⟩, .bool false, .int .i64 0, .int .i64 0, .slice none 0 0, .slice none 0 0]) 7 104 Tryz.underlying30 hj0 hjz0 hjz1 hjz2 rfl (by decide) (.slice (some ⟨b, off, none⟩) pre.length c) pre.length (flatR pre) (by simp [Act.eval, Act.put]) (by simp [Act.eval, Act.put]) HPRE.out.row (flatR_len pre) (flatR_one HPRE.out) (by unfold maxLen; omega) (by omega) ?_; intro v5 w5 hown5 hb5; have HB5 := Lib.hid hb5; replace y0 := cell_below hb5 y0; replace y1 := cell_below hb5 y1; replace y2 := cell_below hb5 y2; replace y3 := cell_below hb5 y3; replace y4 := cell_below hb5 y4; replace y5 := cell_below hb5 y5; replace y6 := cell_below hb5 y6; have hb6 := below_one w5 (.cells #[.string nm', .string rt', .bool wb', .int .i64 sl', .int .i64 qu', .slice Au9 us'.length cu9, .slice As9 seen'.length cs9] 45); have HB6 := Lib.hid (below_from hb5 hb6); have HO6 := Lib.hid (own_stay hown5 hb6); have HSRC := Lib.hid (src_row w5 [.string nm', .string rt', .bool wb', .int .i64 sl', .int .i64 qu', .slice Au9 us'.length cu9, .slice As9 seen'.length cs9] 45); have HSZ := Lib.hid HB6.out.size; clear hown5 hb5 hb6)) | (at_builtin; (refine wpList_append_own _ rfl (.tmp 84) (.tmp 86) 30 rfl W9.heap.size 45 j0 (.agg #[.string ⟨#[]⟩, .string ⟨#[]⟩, .bool false, .int .i64 0, .int .i64 0, .slice none 0 0, .slice none 0 0]) 7 104 Tryz.underlying30 hj0 hjz0 hjz1 hjz2 rfl (by decide) v5 pre.length (flatR pre) (by simp [Act.eval, Act.put]) HO6.out ⟨w5.heap.size, 0, none⟩ 1 1 [.string nm', .string rt', .bool wb', .int .i64 sl', .int .i64 qu', .slice Au9 us'.length cu9, .slice As9 seen'.length cs9] (by simp [Act.eval, Act.put]) rfl HSRC.out (by simp [Value.oneCell']) (by unfold maxLen; omega) (by omega) HSZ.out ?_; intro v7 w7 hown7 hg7 _; obtain ⟨A7, c7, rfl⟩ := own_slice hown7; have HO7 := Lib.hid hown7; have HB7 := Lib.hid (HB6.out.grown hg7 HSZ.out (fun j hj => (HO6.out.lt j hj).1)); clear hown7 hg7 y0 y1 y2 y3 y4 y5 y6)))
                    · have hx0 : x = 0 := by simpa using hbx
                      rcases HSET9.out with ⟨y, hse, hy0, hxy⟩ | ⟨hso, -⟩
                      · exact absurd (hxy.symm.trans hx0) hy0
                      have HN := Lib.hid (HSTEP.out _ (HLT.out.trans (by rw [hso]; rfl)))
                      have hsl : seen'.length ≤ seen.length + 1 := setC_grow hso
                      have HQ7 : Hid (RModsIn w7 (.slice A7 (pre.length + 1) c7) (pre ++ [⟨⟨nm', rt', wb', sl', qu', us'⟩, .slice Au9 us'.length cu9, .slice As9 seen'.length cs9, seen'⟩])) := Lib.hid ⟨by
                          rw [List.length_append, List.length_singleton, flatR_snoc]
                          exact RowIn.of_own HO7.out (by decide), fun r hr => by
                          rcases List.mem_append.1 hr with hr | hr
                          · exact (HPRE.out.us r hr).below HB7.out
                          · rw [List.mem_singleton.1 hr]
                            exact HRAT.out.us.below HB7.out, fun r hr => by
                          rcases List.mem_append.1 hr with hr | hr
                          · exact (HPRE.out.seen r hr).below HB7.out
                          · rw [List.mem_singleton.1 hr]
                            exact HRAT.out.seen.below HB7.out⟩
                      have hq7 : (pre ++ [(⟨⟨nm', rt', wb', sl', qu', us'⟩, .slice Au9 us'.length cu9, .slice As9 seen'.length cs9, seen'⟩ : RMRow)]).length = pre.length + 1 := by simp
                      have hm7 : (pre ++ [(⟨⟨nm', rt', wb', sl', qu', us'⟩, .slice Au9 us'.length cu9, .slice As9 seen'.length cs9, seen'⟩ : RMRow)]).map RMRow.md = pre.map RMRow.md ++ [⟨nm', rt', wb', sl', qu', us'⟩] := by simp
                      refine ⟨⟨k + 1, pre ++ [⟨⟨nm', rt', wb', sl', qu', us'⟩, .slice Au9 us'.length cu9, .slice As9 seen'.length cs9, seen'⟩], A7, c7, by omega, by go_num, by rw [hq7], by rw [hq7]; exact HQ7.out, below_from HB.out (below_from HB9.out HB7.out), by rw [hm7, seenOf_snoc]; exact HN.out.1, by rw [hm7, seenOf_snoc]; exact HN.out.2, by rw [seenOf_snoc]; show seen'.length ≤ k + 1; omega⟩, ?_⟩
                      simp [intOf]; omega
                    · have hx0 : x ≠ 0 := by simpa using hbx
                      rcases HSET9.out with ⟨y, hse, hy0, hxy⟩ | ⟨-, hxz⟩
                      · subst hxy
                        have HRX := Lib.hid (HFELL.out x (HLT.out.trans (by rw [hse]; rfl)))
                        go_ret3
                        exact ⟨below_from HB3.out (below_from HB.out (below_from HB9.out HB7.out)), .inr ⟨k, x, HRX.out, hx0, rfl⟩⟩
                      · exact absurd hxz hx0
      · have HEND : Hid (parseL 0 ⟨[], []⟩ Ls = .ok ⟨q.map RMRow.md, seenOf q⟩) := Lib.hid (by rw [HGO.out, List.drop_of_length_le (by omega), parseL])
        obtain rfl : k = Ls.length := by omega
        have HCK := Lib.hid (rcheckM_any A c q wk (by omega) (fun r hr => by
          have hz := (HGOOD.out.ms r.md (List.mem_map.2 ⟨r, hr, rfl⟩)).root
          rcases hz with e | e
          · have : r.md.root.data.toList.length = r.md.root.size := by simp
            rw [e] at this
            simp at this
            omega
          · by_cases hbg : 64 < r.md.root.size
            · exfalso
              have : checkB r.md.root ≠ none := by
                unfold checkB
                rw [if_pos (by simp; right; omega)]
                simp
              exact this e
            · omega) HQ.out)
        go_wp2_with fail
        refine HCK.out.mono ?_
        rintro e w4 ⟨rfl, hb4⟩
        have HB4 := Lib.hid (below_from HB3.out (below_from HB.out hb4))
        have HQ4 := Lib.hid (HQ.out.below hb4)
        clear hb4
        rcases whole_form (q.map RMRow.md) 0 [] with hw | ⟨p, x, hw⟩
        · have HR := Lib.hid (HOK.out _ HEND.out hw)
          rw [hw]
          simp only [whRes]
          clear hw
          go_wp2_with fail
          go_ret3
          exact ⟨HB4.out, .inl ⟨A, c, q, HR.out, rfl, HQ4.out⟩⟩
        · have HR := Lib.hid (HWH.out _ _ HEND.out hw (by intro h; cases h))
          have hx0 := whole_ne hw
          have HX0 := Lib.hid hx0
          have bx := ne_flag hx0
          rw [hw]
          simp only [whRes]
          clear hw hx0
          go_wp2_with fail
          go_ret3
          exact ⟨HB4.out, .inr ⟨p, x, HR.out, HX0.out, rfl⟩⟩
end Go.Proofs.YtddnfooachibiaaGreatDoor
