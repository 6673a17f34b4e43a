/-
  Locks and the reference's asks say the same, in plain Lean.
-/
import Derived.Test.YtaaeobdihfbjfaaDoorRefRel
set_option linter.unusedVariables false
set_option linter.unusedSimpArgs false
namespace Go.Proofs.YtaaeobdihfbjfaaDoor
/-- Locks and the reference's asks that are the same asks. -/
structure Same (q : List LRow) (r : List RRow) : Prop where
  sound : Sound q
  once : Once q
  sg : sig q = sigR r
  small : q.length ≤ 64
theorem Same.len {q : List LRow} {r : List RRow} (h : Same q r) : q.length = r.length := by
  have := congrArg List.length h.sg
  simpa [sig, sigR] using this
theorem Same.row {q : List LRow} {r : List RRow} (h : Same q r) {i : Nat} (hq : i < q.length) (hr : i < r.length) : q[i].who = r[i].who ∧ q[i].paths = r[i].paths := by
  have := congrArg (fun l => l[i]?) h.sg
  simp [sig, sigR, hq, hr, LRow.sig, RRow.sig] at this
  exact this
theorem Same.find {q : List LRow} {r : List RRow} (h : Same q r) (who : Int) : findQ q who = findR r who := by
  unfold findQ findR
  rw [h.len]
  congr 1
  funext k
  by_cases hk : k < r.length
  · have hk' : k < q.length := by rw [h.len]; exact hk
    simp [List.getD, hk, hk', (h.row hk' hk).1]
  · have hk' : ¬ k < q.length := by rw [h.len]; exact hk
    simp [List.getD, hk, hk', zR]
theorem once_ne {q : List LRow} (h : Once q) {i j : Nat} (hi : i < q.length) (hj : j < i) : (q[j]'(by omega)).who ≠ q[i].who := by
  have := List.pairwise_iff_getElem.1 h j i (by simp; omega) (by simp; omega) hj
  simpa using this
theorem Same.at_ {q : List LRow} {r : List RRow} (h : Same q r) {i : Nat} (hr : i < r.length) : findR r r[i].who = i := by
  have hq : i < q.length := by rw [h.len]; exact hr
  rw [← h.find]
  exact findQ_at hq (h.row hq hr).1 (fun j hj hji => by rw [← (h.row hq hr).1]; exact once_ne h.once hq hji)
theorem Same.has {q : List LRow} {r : List RRow} (h : Same q r) {i : Nat} (hr : i < r.length) : hasQ q r[i].who = canS (sigR r) i := by
  have hq : i < q.length := by rw [h.len]; exact hr
  rw [has_at h.sound hq (h.row hq hr).1 (fun j hj hji => by rw [← (h.row hq hr).1]; exact once_ne h.once hq hji), h.sg]
theorem Same.waits {q : List LRow} {r : List RRow} (h : Same q r) {i : Nat} (hr : i < r.length) : waitsQ q r[i].who = !canS (sigR r) i := by
  have hq : i < q.length := by rw [h.len]; exact hr
  rw [← h.has hr]
  exact has_present (List.mem_map.2 ⟨q[i], List.getElem_mem hq, (h.row hq hr).1⟩)
theorem Same.can {q : List LRow} {r : List RRow} (h : Same q r) {i : Nat} (hq : i < q.length) : q[i].has = canS (sigR r) i := by
  rw [h.sound i hq, freeQ_sig q hq, h.sg]
theorem Same.err {q : List LRow} {r : List RRow} (h : Same q r) (who : Int) (ps : List ByteArray) : (askErr q who ps).num = putErr r who ps := by
  unfold askErr putErr
  rw [h.find, h.len]
  have := h.small
  rw [h.len] at this
  by_cases h1 : 0 ≤ findR r who
  · rw [if_pos h1, if_pos h1]; rfl
  · rw [if_neg h1, if_neg h1]
    by_cases h2 : 64 ≤ r.length
    · rw [if_pos (by omega), if_pos h2]; rfl
    · rw [if_neg (by omega), if_neg h2]
      by_cases h3 : 16 < ps.length
      · rw [if_pos h3, if_pos h3]; rfl
      · rw [if_neg h3, if_neg h3]
theorem put_ok {r : List RRow} {who : Int} {ps : List ByteArray} (h : putErr r who ps = 0) : findR r who < 0 ∧ r.length < 64 ∧ ps.length ≤ 16 ∧ ∃ xs, setGo 0 [] ps = .ok xs := by
  unfold putErr at h
  split at h
  · omega
  · split at h
    · omega
    · split at h
      · omega
      · refine ⟨by omega, by omega, by omega, ?_⟩
        cases hs : setGo 0 [] ps with
        | ok xs => exact ⟨xs, rfl⟩
        | none_ i => rw [hs] at h; exact absurd h (by show ¬ (90 : Int) = 0; omega)
        | bad i c =>
          rw [hs] at h
          have hc : (c : Int) = 0 := h
          rcases setGo_two ps 0 [] hs with h2 | h2 <;> omega
theorem canS_last (s : List (Int × List ByteArray)) (who : Int) (xs : List ByteArray) : canS (s ++ [(who, xs)]) s.length = !s.any fun a => meetB a.2 xs := by
  have e : (s ++ [(who, xs)]).getD s.length (0, []) = (who, xs) := by simp [List.getD]
  rw [canS, e, List.take_left']
  rfl
theorem find_none_who {q : List LRow} {who : Int} (h : findQ q who < 0) : who ∉ q.map LRow.who := by
  intro hm
  obtain ⟨k, _, hf, _⟩ := findQ_present hm
  omega
theorem Same.put {q : List LRow} {r : List RRow} (h : Same q r) (who : Int) (ps : List ByteArray) (v v' : Value) : Same (askNext q who ps v) (putNext r who ps v') := by
  have he := h.err who ps
  by_cases hz : putErr r who ps = 0
  · obtain ⟨h1, h2, h3, xs, hx⟩ := put_ok hz
    refine ⟨sound_ask h.sound _ _ _, ?_, ?_, ?_⟩
    · rw [askNext, if_pos (by rw [he, hz])]
      unfold Once
      rw [List.map_append, List.map_singleton, List.nodup_append]
      refine ⟨h.once, by simp, fun a ha b hb e => ?_⟩
      rw [List.mem_singleton.1 hb] at e
      exact find_none_who (by rw [h.find]; exact h1) (e ▸ ha)
    · rw [sig_ask v (by rw [he, hz]) hx, putNext, if_pos hz, hx, h.sg]
      simp [sigR, RRow.sig, SetR.outs]
    · rw [askNext, if_pos (by rw [he, hz]), List.length_append, List.length_singleton, h.len]; omega
  · rw [askNext, if_neg (by rw [he]; exact hz), putNext, if_neg hz]; exact h
theorem Same.askHas_no {q : List LRow} {r : List RRow} (h : Same q r) {who : Int} {ps : List ByteArray} (hz : putErr r who ps ≠ 0) : askHas q who ps = false := by
  rw [askHas, h.err, decide_eq_false hz]; rfl
theorem Same.askHas_yes {q : List LRow} {r : List RRow} (h : Same q r) {who : Int} {ps : List ByteArray} (v : Value) (hz : putErr r who ps = 0) : askHas q who ps = canS (sigR (putNext r who ps v)) ((putNext r who ps v).length - 1) ∧ (putNext r who ps v).length = r.length + 1 := by
  obtain ⟨h1, h2, h3, xs, hx⟩ := put_ok hz
  have hn : putNext r who ps v = r ++ [⟨who, v, xs⟩] := by rw [putNext, if_pos hz, hx]; rfl
  have hs : sigR (r ++ [⟨who, v, xs⟩]) = sigR r ++ [(who, xs)] := by simp [sigR, RRow.sig]
  have hl : (r ++ [(⟨who, v, xs⟩ : RRow)]).length - 1 = (sigR r).length := by simp [sigR]
  rw [hn, hs, hl, canS_last]
  refine ⟨?_, by simp⟩
  rw [askHas, h.err, hz, hx, ← h.sg, sig, List.any_map]
  rfl
theorem Same.gone {q : List LRow} {r : List RRow} (h : Same q r) {who : Int} (hf : findR r who = -1) : relQ q who = (q, [], 4) := by
  rw [relQ, if_neg (by rw [h.find, hf]; omega)]
theorem who_map1 {q : List LRow} : q.map LRow.who = (sig q).map (·.1) := by simp [sig, LRow.sig, Function.comp]
theorem Same.rel {q : List LRow} {r : List RRow} (h : Same q r) {who : Int} {k : Nat} (hk : k < r.length) (hf : findR r who = k) : Same (relQ q who).1 (r.eraseIdx k) ∧ (relQ q who).2.1 = toldR r (r.eraseIdx k) (r.length - 1) ∧ (relQ q who).2.2 = 0 := by
  have hfq : findQ q who = k := by rw [h.find, hf]
  have hkq : k < q.length := by rw [h.len]; exact hk
  have hs := sig_rel hfq
  have hlen : (q.eraseIdx k).length = q.length - 1 := by rw [List.length_eraseIdx, if_pos hkq]
  have hlen2 : (r.eraseIdx k).length = r.length - 1 := by rw [List.length_eraseIdx, if_pos hk]
  refine ⟨⟨sound_rel h.sound _, ?_, ?_, ?_⟩, ?_, hs.2⟩
  · unfold Once
    rw [who_map1, hs.1]
    have : ((sig q).eraseIdx k).map (·.1) = (q.map LRow.who).eraseIdx k := by
      rw [who_map1, List.eraseIdx_eq_take_drop_succ, List.eraseIdx_eq_take_drop_succ, List.map_append, List.map_take, List.map_drop]
    rw [this]
    exact List.Pairwise.sublist (List.eraseIdx_sublist _ _) h.once
  · rw [hs.1, h.sg, sigR, sigR, List.eraseIdx_eq_take_drop_succ, List.eraseIdx_eq_take_drop_succ, List.map_append, List.map_take, List.map_drop]
  · rw [← sig_length, hs.1, List.length_eraseIdx, if_pos (by rw [sig_length]; exact hkq), sig_length]
    have := h.small
    omega
  · rw [rel_told hfq hkq, toldR, h.len]
    have hsg : sig (q.eraseIdx k) = sigR (r.eraseIdx k) := by
      rw [sig_erase, h.sg, sigR, sigR, List.eraseIdx_eq_take_drop_succ, List.eraseIdx_eq_take_drop_succ, List.map_append, List.map_take, List.map_drop]
    have key : ∀ i, i < r.length - 1 → ((q.eraseIdx k).getD i zRow).who = ((r.eraseIdx k).getD i zR).who ∧ (!((q.eraseIdx k).getD i zRow).has && freeQ (q.eraseIdx k) i) = (canS (sigR (r.eraseIdx k)) i && !canS (sigR r) (findR r ((r.eraseIdx k).getD i zR).who).toNat) := by
      intro i hi
      have h1 : i < (q.eraseIdx k).length := by rw [hlen, h.len]; exact hi
      have h2 : i < (r.eraseIdx k).length := by rw [hlen2]; exact hi
      obtain ⟨j, hjq, hjr, e1, e2⟩ : ∃ j, ∃ hjq : j < q.length, ∃ hjr : j < r.length, (q.eraseIdx k)[i] = q[j] ∧ (r.eraseIdx k)[i] = r[j] := by
        by_cases hik : i < k
        · exact ⟨i, by omega, by omega, List.getElem_eraseIdx_of_lt h1 hik, List.getElem_eraseIdx_of_lt h2 hik⟩
        · exact ⟨i + 1, by omega, by omega, List.getElem_eraseIdx_of_ge h1 (by omega), List.getElem_eraseIdx_of_ge h2 (by omega)⟩
      have g1 : (q.eraseIdx k).getD i zRow = q[j] := by rw [List.getD_eq_getElem?_getD, List.getElem?_eq_getElem h1, Option.getD_some, e1]
      have g2 : (r.eraseIdx k).getD i zR = r[j] := by rw [List.getD_eq_getElem?_getD, List.getElem?_eq_getElem h2, Option.getD_some, e2]
      rw [g1, g2, h.at_ hjr, freeQ_sig _ h1, hsg, h.can hjq]
      exact ⟨(h.row hjq hjr).1, by rw [Bool.and_comm]; rfl⟩
    have e1 : ((List.range (r.length - 1)).filter fun i => !((q.eraseIdx k).getD i zRow).has && freeQ (q.eraseIdx k) i) = (List.range (r.length - 1)).filter fun i => canS (sigR (r.eraseIdx k)) i && !canS (sigR r) (findR r ((r.eraseIdx k).getD i zR).who).toNat :=
      List.filter_congr (fun i hi => (key i (List.mem_range.1 hi)).2)
    rw [e1]
    exact List.map_congr_left (fun i hi => (key i (List.mem_range.1 (List.mem_filter.1 hi).1)).1)
/-- What the reference's Release comes to. -/
def rrelQ (r : List RRow) (who : Int) : List RRow × List Int × Int :=
  if findR r who = -1 then (r, [], 4) else (r.eraseIdx (findR r who).toNat, toldR r (r.eraseIdx (findR r who).toNat) (r.length - 1), 0)
theorem rrel_one {r : List RRow} {who : Int} {base : Nat} {w : World} {e : Ending} {w' : World} (h : RRelPost r who base w e w') :
    ∃ v o, e = .returned (.tuple #[v, o, .int .i64 (rrelQ r who).2.2]) ∧ AsksAt w' base v (rrelQ r who).1 ∧ w'.ownsRow w.heap.size 3 1 o (rrelQ r who).2.1.length (intsV (rrelQ r who).2.1) ∧ RowKit.Below w.heap.size w w' := by
  rcases h with ⟨hm, v, rfl, ha, hb⟩ | ⟨k, hk, hm, v, o, rfl, ha, ho, hb⟩
  · have e : rrelQ r who = (r, [], 4) := by rw [rrelQ, if_pos hm]
    rw [e]
    exact ⟨v, _, rfl, ha, ⟨rfl, .inl ⟨rfl, rfl⟩⟩, hb⟩
  · have e : rrelQ r who = (r.eraseIdx k, toldR r (r.eraseIdx k) (r.length - 1), 0) := by rw [rrelQ, if_neg (by omega), hm]; rfl
    rw [e]
    exact ⟨v, o, rfl, ha, ho, hb⟩
theorem Same.rel1 {q : List LRow} {r : List RRow} (h : Same q r) (who : Int) : Same (relQ q who).1 (rrelQ r who).1 ∧ (relQ q who).2.1 = (rrelQ r who).2.1 ∧ (relQ q who).2.2 = (rrelQ r who).2.2 := by
  rcases findR_cases r who with hm | ⟨k, hk, hm⟩
  · have e : rrelQ r who = (r, [], 4) := by rw [rrelQ, if_pos hm]
    rw [e, h.gone hm]
    exact ⟨h, rfl, rfl⟩
  · have e : rrelQ r who = (r.eraseIdx k, toldR r (r.eraseIdx k) (r.length - 1), 0) := by rw [rrelQ, if_neg (by omega), hm]; rfl
    rw [e]
    exact h.rel hk hm
/-- The first i rows of which p is had: nobody has it, or one does. -/
def hitR (r : List RRow) (p : ByteArray) (i : Nat) : Bool := canS (sigR r) i && (r.getD i zR).paths.any fun s => s.toList == p.toList
def LikeSt (r : List RRow) (p : ByteArray) (i : Nat) (h : Int) (t : Bool) : Prop := (h = 0 ∧ t = false ∧ ∀ j, j < i → hitR r p j = false) ∨ (∃ j, j < i ∧ hitR r p j = true ∧ h = (r.getD j zR).who ∧ t = true)
theorem meet_self {xs ys : List ByteArray} {p : ByteArray} (hx : (xs.any fun s => s.toList == p.toList) = true) (hy : (ys.any fun s => s.toList == p.toList) = true) : meetB xs ys = true := by
  obtain ⟨x, hx1, hx2⟩ := List.any_eq_true.1 hx
  obtain ⟨y, hy1, hy2⟩ := List.any_eq_true.1 hy
  refine List.any_eq_true.2 ⟨x, hx1, List.any_eq_true.2 ⟨y, hy1, ?_⟩⟩
  rw [hitB]
  have e1 : x.toList = p.toList := by simpa using hx2
  have e2 : y.toList = p.toList := by simpa using hy2
  rw [e1, e2]
  simp
theorem hit_once {r : List RRow} {p : ByteArray} {i j : Nat} (hi : i < r.length) (hj : j < i) (h1 : hitR r p i = true) (h2 : hitR r p j = true) : False := by
  simp only [hitR, Bool.and_eq_true] at h1 h2
  have hjr : j < r.length := by omega
  have g1 : r.getD i zR = r[i] := by simp [List.getD, hi]
  have g2 : r.getD j zR = r[j] := by simp [List.getD, hjr]
  rw [g1] at h1
  rw [g2] at h2
  have := canS_no hi hj (meet_self h2.2 h1.2)
  rw [this] at h1
  simp at h1
theorem Same.holds {q : List LRow} {r : List RRow} (h : Same q r) {i : Nat} (hq : i < q.length) (p : ByteArray) : q[i].holds p = hitR r p i := by
  have hr : i < r.length := by rw [← h.len]; exact hq
  have g1 : r.getD i zR = r[i] := by simp [List.getD, hr]
  rw [LRow.holds, hitR, h.can hq, g1, (h.row hq hr).2]
theorem Same.holder {q : List LRow} {r : List RRow} (h : Same q r) {p : ByteArray} {a : Int} {t : Bool} (hs : LikeSt r p r.length a t) : holderQ q p = (a, t) := by
  rcases hs with ⟨rfl, rfl, h0⟩ | ⟨j, hj, hh, rfl, rfl⟩
  · rw [holderQ, find_not (fun i hi => by rw [h.holds hi]; exact h0 i (by rw [← h.len]; exact hi))]
  · have hjq : j < q.length := by rw [h.len]; exact hj
    have hf := find_at (q := q) (p := LRow.holds p) hjq (by rw [h.holds hjq]; exact hh) (fun i hi hij => by
      rw [h.holds hi]
      cases hc : hitR r p i with
      | false => rfl
      | true => exact (hit_once hj hij hh hc).elim)
    rw [holderQ, hf]
    have g1 : r.getD j zR = r[j] := by simp [List.getD, hj]
    show (q[j].who, true) = _
    rw [(h.row hjq hj).1, g1]
theorem likeSt_zero (r : List RRow) (p : ByteArray) : LikeSt r p 0 0 false := .inl ⟨rfl, rfl, fun j hj => by omega⟩
theorem likeSt_no {r : List RRow} {p : ByteArray} {i : Nat} {a : Int} {t : Bool} (h : LikeSt r p i a t) (hn : hitR r p i = false) : LikeSt r p (i + 1) a t := by
  rcases h with ⟨h1, h2, h3⟩ | ⟨j, hj, h⟩
  · refine .inl ⟨h1, h2, fun j hj => ?_⟩
    by_cases e : j = i
    · rw [e]; exact hn
    · exact h3 j (by omega)
  · exact .inr ⟨j, by omega, h⟩
theorem likeSt_yes {r : List RRow} {p : ByteArray} {i : Nat} (hn : hitR r p i = true) : LikeSt r p (i + 1) (r.getD i zR).who true := .inr ⟨i, by omega, hn, rfl, rfl⟩
end Go.Proofs.YtaaeobdihfbjfaaDoor
