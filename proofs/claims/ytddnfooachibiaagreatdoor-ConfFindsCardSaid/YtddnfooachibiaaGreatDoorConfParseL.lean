/-
  conf.Parse.
-/
import Derived.Test.YtddnfooachibiaaGreatDoorConfParseM
set_option linter.unusedVariables false
set_option linter.unusedSimpArgs false
namespace Go.Proofs.YtddnfooachibiaaGreatDoor
open Go.RowKit Go.Maps Go.WideMaps Go.WideAt
theorem split_nl (s : ByteArray) (w : World) (hs : s.size ≤ 8192) (hg : EnvM w) : Calls Tryz.prog 21 #[.string s, .string ⟨#[10]⟩] w fun e w' => e = .returned (.slice (some ⟨w.heap.size, 0, none⟩) (linesL s.data.toList).length (linesL s.data.toList).length) ∧ w' = w.alloc (.cells ((linesL s.data.toList).map fun l => Value.string (bA l)).toArray 9) := by
  obtain ⟨m, hm⟩ := hg
  refine (Tryz.strings_Split s ⟨#[10]⟩ m w (by omega) hm (by decide)).mono ?_
  rintro e w' ⟨rfl, rfl⟩
  rw [lines_of, lines_len, List.map_map]
  exact ⟨rfl, rfl⟩
theorem trim_any (s : ByteArray) (w : World) (hs : s.size ≤ 1000000) : Calls Tryz.prog 22 #[.string s, .string ⟨#[32]⟩] w fun e w' => e = .returned (.string (bA (Lib.trimB s.data.toList 32))) ∧ Below w.heap.size w w' := by
  refine (Tryz.strings_Trim_one s 32 (by decide) w (by omega)).mono ?_
  rintro e w' ⟨rfl, rfl | rfl⟩
  · exact ⟨rfl, Below.refl _ _⟩
  · exact ⟨rfl, Below.drew (Below.refl _ _)⟩
theorem trimL_any (s : ByteArray) (w : World) : Calls Tryz.prog 28 #[.string s, .string ⟨#[32]⟩] w fun e w' => e = .returned (.string (bA (Lib.trimLeftB s.data.toList 32))) ∧ w' = w := Tryz.strings_TrimLeft_one s 32 (by decide) w
theorem trimR_any (s : ByteArray) (w : World) (hs : s.size ≤ 1000000) : Calls Tryz.prog 27 #[.string s, .string ⟨#[32]⟩] w fun e w' => e = .returned (.string (bA (Lib.trimRightB s.data.toList 32))) ∧ w' = w := Tryz.strings_TrimRight_one s 32 (by decide) w (by omega)
theorem sufx_any (s : ByteArray) (w : World) (hs : s.size ≤ 1000000) : Calls Tryz.prog 24 #[.string s, .string ⟨#[93]⟩] w fun e w' => e = .returned (.tuple #[.string (bA (Lib.trimSuffix s.data.toList [93])), .bool (Lib.hasSuffix s.data.toList [93])]) ∧ w' = w := Tryz.strings_CutSuffix s ⟨#[93]⟩ w (by omega)
theorem linesL_le : ∀ (l : List UInt8), ∀ x ∈ linesL l, x.length ≤ l.length
  | [], x, h => by
    simp [linesL] at h
    rw [h]; simp
  | c :: r, x, h => by
    have ih := linesL_le r
    rw [linesL] at h
    split at h
    · rcases List.mem_cons.1 h with rfl | h
      · simp
      · have := ih x h
        simp; omega
    · split at h
      · rename_i e
        exact absurd e (linesL_some r)
      · rename_i h0 t0 e
        rw [e] at ih
        rcases List.mem_cons.1 h with rfl | h
        · have := ih h0 (by simp)
          simp; omega
        · have := ih x (by simp [h])
          simp; omega
theorem linesL_many : ∀ l : List UInt8, (linesL l).length ≤ l.length + 1
  | [] => by simp [linesL]
  | c :: r => by
    have ih := linesL_many r
    rw [linesL]
    split
    · simp; omega
    · split
      · simp
      · rename_i h0 t0 e
        rw [e] at ih
        simp at ih ⊢; omega
theorem trimB_len (l : List UInt8) (c : UInt8) : (Lib.trimB l c).length ≤ l.length := by
  have h1 : (Lib.trimB l c).length ≤ (Lib.trimRightB l c).length := (List.dropWhile_suffix _).length_le
  have h2 : (Lib.trimRightB l c).length ≤ l.length := by
    unfold Lib.trimRightB
    rw [List.length_reverse]
    have := (List.dropWhile_suffix (· == c) (l := l.reverse)).length_le
    simpa using this
  omega
theorem lineT_skip {st : StC} {l : List UInt8} (h : l = [] ∨ l.head? = some 35) : lineT st l = .ok st := by rw [lineT, if_pos h]
theorem lineT_open {st : StC} {l : List UInt8} (h : l.head? = some 91) : lineT st l = openC st l := by
  rw [lineT, if_neg, if_pos h]
  rintro (e | e)
  · rw [e] at h; cases h
  · rw [e] at h; cases h
theorem lineT_no {st : StC} {l : List UInt8} (h0 : l ≠ []) (h1 : l.head? ≠ some 35) (h2 : l.head? ≠ some 91) (h : (Lib.cut l [61]).2.2 = false) : lineT st l = .error 130 := by
  rw [lineT, if_neg (fun e => e.elim h0 h1), if_neg h2, if_pos h]
theorem lineT_none {st : StC} {l : List UInt8} (h0 : l ≠ []) (h1 : l.head? ≠ some 35) (h2 : l.head? ≠ some 91) (h : (Lib.cut l [61]).2.2 = true) (hm : st.ms = []) : lineT st l = .error 130 := by
  rw [lineT, if_neg (fun e => e.elim h0 h1), if_neg h2, if_neg (by simp [h]), hm]
  rfl
theorem lineT_set {pre : List ModC} {m : ModC} {seen : List ByteArray} {l : List UInt8} (h0 : l ≠ []) (h1 : l.head? ≠ some 35) (h2 : l.head? ≠ some 91) (h : (Lib.cut l [61]).2.2 = true) : lineT ⟨pre ++ [m], seen⟩ l = (setC m seen (keyC l) (valC l)).map fun r => ⟨pre ++ [r.1], r.2⟩ := by
  rw [lineT, if_neg (fun e => e.elim h0 h1), if_neg h2, if_neg (by simp [h])]
  simp only [last_one, drop_one]
theorem parse_step {Ls : List (List UInt8)} {k : Nat} {st st' : StC} (hk : k < Ls.length) (h : lineC st Ls[k] = .ok st') : parseL k st (Ls.drop k) = parseL (k + 1) st' (Ls.drop (k + 1)) := by
  rw [List.drop_eq_getElem_cons hk, parseL, h]
theorem parse_fell {Ls : List (List UInt8)} {k : Nat} {st : StC} {x : Int} (hk : k < Ls.length) (h : lineC st Ls[k] = .error x) : parseL k st (Ls.drop k) = .error (k, x) := by
  rw [List.drop_eq_getElem_cons hk, parseL, h]
theorem parseC_bad {s : ByteArray} {k : Nat} {x : Int} (hs : s.size ≤ 8192) (h : parseL 0 ⟨[], []⟩ (linesL s.data.toList) = .error (k, x)) : parseC s = (.fault k x, []) := by
  rw [parseC, if_neg (by omega), h]
theorem parseC_ok {s : ByteArray} {st : StC} (hs : s.size ≤ 8192) (h : parseL 0 ⟨[], []⟩ (linesL s.data.toList) = .ok st) (hw : wholeC 0 [] st.ms = .nil) : parseC s = (.nil, st.ms) := by
  rw [parseC, if_neg (by omega), h]
  simp only [hw]
theorem parseC_whole {s : ByteArray} {st : StC} {g : GErr} (hs : s.size ≤ 8192) (h : parseL 0 ⟨[], []⟩ (linesL s.data.toList) = .ok st) (hw : wholeC 0 [] st.ms = g) (hg : g ≠ .nil) : parseC s = (g, []) := by
  rw [parseC, if_neg (by omega), h]
  simp only [hw]
theorem load_cfg {W : World} {g : Nat} {v : Value} (h : W.heap[g]? = some (Obj.cells #[v] 25 (0, 0))) : (loadVar 25 ⟨g, 0, none⟩).run Tryz.prog W = .ok (.agg #[v]) W := by
  refine run_loadVar_mid W g 0 25 [v] _ (fun k u hk => ?_) Tryz.underlying25 (by kernel_rfl) (by kernel_rfl)
  rw [cell_of_row W _ _ _ _ _ h]
  simpa using hk
def ParsePost (s : ByteArray) (w : World) (e : Ending) (w' : World) : Prop := Below w.heap.size w w' ∧ ((∃ t u g, parseC s = (g, []) ∧ g ≠ .nil ∧ e = .returned (.tuple #[.agg #[.slice none 0 0], .iface t u]) ∧ ErrV w' (.iface t u) g) ∨ (∃ cv q, parseC s = (.nil, q.map MRow.md) ∧ e = .returned (.tuple #[.agg #[cv], .nilIface]) ∧ ModsIn w' cv q))
/-- What Find hands back, laid open. -/
theorem findV_form {w : World} {v : Value} {q : List MRow} (h : ModsIn w v q) (n : ByteArray) : ∃ a b c d e A k f, findV (findQ q n) = .tuple #[.agg #[.string a, .string b, .bool c, .int .i64 d, .int .i64 e, .slice A k f], .bool (findQ q n).isSome] := by
  cases hf : findQ q n with
  | none => exact ⟨_, _, _, _, _, _, _, _, rfl⟩
  | some r =>
    obtain ⟨A, c, e, _⟩ := (h.us r (findQ_mem hf).1).slice
    obtain ⟨⟨nm, rt, wb, sl, qu, us⟩, uv⟩ := r
    replace e : uv = .slice A us.length c := e
    subst e
    exact ⟨_, _, _, _, _, _, _, _, rfl⟩
/-- The end at a wrong line. -/
theorem parse_err {w wE : World} {rb : Nat} (hres : wE.heap[rb]? = some (.cells #[.slice none 0 0] 25 (0, 0))) (hbel : Below w.heap.size w wE) (hrb : w.heap.size ≤ rb) (i x : Int) :
    (wE.alloc (.cells #[.int .i64 i, .int .i64 x] 64)).cell? ⟨rb, 0, none⟩ = some (.slice none 0 0) ∧ (wE.alloc (.cells #[.int .i64 i, .int .i64 x] 64)).frozen? ⟨rb, 0, none⟩ = false ∧
    (loadVar 25 ⟨rb, 0, none⟩).run Tryz.prog ((wE.alloc (.cells #[.int .i64 i, .int .i64 x] 64)).setCell ⟨rb, 0, none⟩ (.slice none 0 0)) = .ok (.agg #[.slice none 0 0]) ((wE.alloc (.cells #[.int .i64 i, .int .i64 x] 64)).setCell ⟨rb, 0, none⟩ (.slice none 0 0)) ∧
    Below w.heap.size w ((wE.alloc (.cells #[.int .i64 i, .int .i64 x] 64)).setCell ⟨rb, 0, none⟩ (.slice none 0 0)) ∧
    ErrV ((wE.alloc (.cells #[.int .i64 i, .int .i64 x] 64)).setCell ⟨rb, 0, none⟩ (.slice none 0 0)) (.iface 62 (.pointer (some ⟨wE.heap.size, 0, none⟩))) (.fault i x) := by
  have hb := below_one wE (.cells #[.int .i64 i, .int .i64 x] 64)
  have hr := block_below hres hb
  have hn := heap_alloc_new wE (.cells #[.int .i64 i, .int .i64 x] 64)
  have hne : rb ≠ wE.heap.size := fun e => by
    have := lt_of_block hres
    omega
  have hfb : (wE.alloc (.cells #[.int .i64 i, .int .i64 x] 64)).heap.size = wE.heap.size + 1 := by simp
  have hf : FrB (fun k => k = rb) (wE.alloc (.cells #[.int .i64 i, .int .i64 x] 64)) ((wE.alloc (.cells #[.int .i64 i, .int .i64 x] 64)).setCell ⟨rb, 0, none⟩ (.slice none 0 0)) := FrB.set _ rfl
  have hn2 := hf.at_ hn (fun e => hne e.symm)
  refine ⟨by rw [cell_of_row _ _ 0 _ _ _ hr]; rfl, frozen_of_row _ _ 0 _ _ hr, load_cfg ?_, (below_from hbel hb).setCell (p := ⟨rb, 0, none⟩) hrb _, ⟨wE.heap.size, rfl, ?_, ?_, _, _, hn2⟩⟩
  · rw [heap_setCell_same _ rb 0 _ _ _ hr]; rfl
  · rw [cell_of_row _ _ 0 _ _ _ hn2]; rfl
  · rw [cell_of_row _ _ 1 _ _ _ hn2]; rfl
theorem parse_err0 {w wE : World} {rb b : Nat} (hres : wE.heap[rb]? = some (.cells #[.slice none 0 0] 25 (0, 0))) (hbel : Below w.heap.size w wE) (hbb : b = wE.heap.size) (i x : Int) :
    (loadVar 25 ⟨rb, 0, none⟩).run Tryz.prog (wE.alloc (.cells #[.int .i64 i, .int .i64 x] 64)) = .ok (.agg #[.slice none 0 0]) (wE.alloc (.cells #[.int .i64 i, .int .i64 x] 64)) ∧
    Below w.heap.size w (wE.alloc (.cells #[.int .i64 i, .int .i64 x] 64)) ∧
    ErrV (wE.alloc (.cells #[.int .i64 i, .int .i64 x] 64)) (.iface 62 (.pointer (some ⟨b, 0, none⟩))) (.fault i x) := by
  subst hbb
  have hb := below_one wE (.cells #[.int .i64 i, .int .i64 x] 64)
  exact ⟨load_cfg (block_below hres hb), below_from hbel hb, ⟨wE.heap.size, rfl, by simp, by simp, _, _, heap_alloc_new wE _⟩⟩
theorem src_row (w : World) (l : List Value) (t : TypeId) : ∀ (j : Nat) u, l[j]? = some u → (w.alloc (.cells l.toArray t)).cell? ((⟨w.heap.size, 0, none⟩ : Addr).add j) = some u := fun j u h => by
  rw [Addr.add_lit, World.cell?_alloc_at _ _ _ _ rfl]
  simpa using h
theorem whole_form : ∀ (ms : List ModC) (i : Nat) (before : List ModC), wholeC i before ms = .nil ∨ ∃ p x, wholeC i before ms = .fault p x
  | [], i, before => .inl rfl
  | m :: t, i, before => by
    rw [wholeC]
    split
    · exact .inr ⟨_, _, rfl⟩
    · split
      · exact .inr ⟨_, _, rfl⟩
      · exact whole_form t _ _
/-- The end where the modules as a whole are wrong. -/
theorem whole_err {w W : World} {rb : Nat} {er : Value} {p x : Int} (hres : W.heap[rb]? = some (.cells #[.slice none 0 0] 25 (0, 0))) (hbel : Below w.heap.size w W) (hrb : w.heap.size ≤ rb) (hev : ErrV W er (.fault p x)) :
    (loadVar 25 ⟨rb, 0, none⟩).run Tryz.prog (W.setCell ⟨rb, 0, none⟩ (.slice none 0 0)) = .ok (.agg #[.slice none 0 0]) (W.setCell ⟨rb, 0, none⟩ (.slice none 0 0)) ∧ Below w.heap.size w (W.setCell ⟨rb, 0, none⟩ (.slice none 0 0)) ∧ ErrV (W.setCell ⟨rb, 0, none⟩ (.slice none 0 0)) er (.fault p x) := by
  have hf : FrB (fun k => k = rb) W (W.setCell ⟨rb, 0, none⟩ (.slice none 0 0)) := FrB.set _ rfl
  obtain ⟨b, rfl, h1, h2, cs, fr, h3⟩ := hev
  have hne : ¬ b = rb := fun e => by
    rw [e, hres] at h3
    injection h3 with h3
    injection h3 with _ h3
    exact absurd h3 (by decide)
  have k3 := hf.at_ h3 hne
  refine ⟨load_cfg (by rw [heap_setCell_same W rb 0 _ _ _ hres]; rfl), hbel.setCell (p := ⟨rb, 0, none⟩) hrb _, ⟨b, rfl, ?_, ?_, cs, fr, k3⟩⟩
  · rw [← h1]; simp only [World.cell?, k3, h3]
  · rw [← h2]; simp only [World.cell?, k3, h3]
/-- The end where all is right. -/
theorem whole_ok {w W : World} {cb lb rb : Nat} {arr : Array Value} {bl : Nat} {cv : Value} {q : List MRow} (h : PSt w W cb lb rb arr bl cv q) (hrb : w.heap.size ≤ rb) :
    (loadVar 25 ⟨rb, 0, none⟩).run Tryz.prog (W.setCell ⟨rb, 0, none⟩ cv) = .ok (.agg #[cv]) (W.setCell ⟨rb, 0, none⟩ cv) ∧ Below w.heap.size w (W.setCell ⟨rb, 0, none⟩ cv) ∧ ModsIn (W.setCell ⟨rb, 0, none⟩ cv) cv q := by
  have hf : FrB (fun k => k = rb) W (W.setCell ⟨rb, 0, none⟩ cv) := FrB.set _ rfl
  refine ⟨load_cfg (by rw [heap_setCell_same W rb 0 _ _ _ h.res]; rfl), h.bel.setCell (p := ⟨rb, 0, none⟩) hrb _, (h.pat.fr hf (fun k cs fr e => ?_)).mods⟩
  subst e
  rw [h.res]
  exact ⟨by simp, by simp⟩
/-- What stays where set told an error. -/
theorem PSt.fell {w wk w' : World} {cb lb rb : Nat} {arr : Array Value} {bl g cap : Nat} {cv : Value} {q pre : List MRow} {r : MRow} {sb n : Nat} {seen : List ByteArray} (h : PSt w wk cb lb rb arr bl cv q) (hi : SetIn wk w.heap.size bl g cap pre r sb n seen)
    (hf : FrB (SetS g sb r.uv) wk w') : w'.heap[rb]? = some (.cells #[.slice none 0 0] 25 (0, 0)) ∧ Below w.heap.size w w' := by
  obtain ⟨curM, hgM⟩ := own_type hi.row g rfl
  obtain ⟨es, ck, hm⟩ := hi.seen.isMap
  refine ⟨hf.at_ h.res (fun hS => ?_), hi.kept (fun k h => h) hf h.bel⟩
  have hb := h.res
  rcases hS with rfl | rfl | e
  · rw [hgM] at hb
    injection hb with hb
    injection hb with _ hb
    exact absurd hb (by decide)
  · rw [hm] at hb; cases hb
  · obtain ⟨cur, hc⟩ := own_type hi.us _ e
    rw [hc] at hb
    injection hb with hb
    injection hb with _ hb
    exact absurd hb (by decide)
theorem openC_suf {st : StC} {l : List UInt8} (h : Lib.hasSuffix (l.drop 1) [93] = false) : openC st l = .error 130 := by rw [openC, if_pos h]
theorem openC_name {st : StC} {l : List UInt8} (h : Lib.hasSuffix (l.drop 1) [93] = true) (h2 : nameC (bA (Lib.trimSuffix (l.drop 1) [93])) = false) : openC st l = .error 131 := by rw [openC, if_neg (by rw [h]; decide), if_pos h2]
theorem openC_twice {st : StC} {l : List UInt8} (h : Lib.hasSuffix (l.drop 1) [93] = true) (h2 : nameC (bA (Lib.trimSuffix (l.drop 1) [93])) = true) (h3 : (findC st.ms (bA (Lib.trimSuffix (l.drop 1) [93]))).isSome = true) : openC st l = .error 5 := by rw [openC, if_neg (by rw [h]; decide), if_neg (by rw [h2]; decide), if_pos h3]
theorem openC_full {st : StC} {l : List UInt8} (h : Lib.hasSuffix (l.drop 1) [93] = true) (h2 : nameC (bA (Lib.trimSuffix (l.drop 1) [93])) = true) (h3 : (findC st.ms (bA (Lib.trimSuffix (l.drop 1) [93]))).isSome = false) (h4 : 8 ≤ st.ms.length) : openC st l = .error 3 := by rw [openC, if_neg (by rw [h]; decide), if_neg (by rw [h2]; decide), if_neg (by rw [h3]; decide), if_pos h4]
theorem openC_ok {st : StC} {l : List UInt8} (h : Lib.hasSuffix (l.drop 1) [93] = true) (h2 : nameC (bA (Lib.trimSuffix (l.drop 1) [93])) = true) (h3 : (findC st.ms (bA (Lib.trimSuffix (l.drop 1) [93]))).isSome = false) (h4 : ¬ 8 ≤ st.ms.length) : openC st l = .ok ⟨st.ms ++ [newMod (bA (Lib.trimSuffix (l.drop 1) [93]))], []⟩ := by rw [openC, if_neg (by rw [h]; decide), if_neg (by rw [h2]; decide), if_neg (by rw [h3]; decide), if_neg h4]
theorem some_iff {q : List MRow} {n : ByteArray} : (findC (q.map MRow.md) n).isSome = (findQ q n).isSome := by rw [findQ_map]; cases findQ q n <;> rfl
theorem q_cases (q : List MRow) : q = [] ∨ ∃ pre r, q = pre ++ [r] := by
  rcases List.eq_nil_or_concat q with h | ⟨pre, r, h⟩
  · exact .inl h
  · exact .inr ⟨pre, r, by simpa using h⟩
end Go.Proofs.YtddnfooachibiaaGreatDoor
