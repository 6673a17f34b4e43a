/-
  Locks by who asked for what, in plain Lean.
-/
import Derived.Test.YtaaeobdihfbjfaaDoorLockInv
set_option linter.unusedVariables false
set_option linter.unusedSimpArgs false
namespace Go.Proofs.YtaaeobdihfbjfaaDoor
def LRow.sig (a : LRow) : Int × List ByteArray := (a.who, a.paths)
def sig (q : List LRow) : List (Int × List ByteArray) := q.map LRow.sig
theorem sig_length (q : List LRow) : (sig q).length = q.length := by simp [sig]
theorem sig_get {q : List LRow} {i : Nat} (h : i < q.length) : (sig q)[i]? = some (q[i].who, q[i].paths) := by simp [sig, h, LRow.sig]
/-- Can the i-th have theirs? -/
def canS (s : List (Int × List ByteArray)) (i : Nat) : Bool := !(s.take i).any fun a => meetB a.2 (s.getD i (0, [])).2
theorem freeQ_sig (q : List LRow) {i : Nat} (hi : i < q.length) : freeQ q i = canS (sig q) i := by
  unfold freeQ canS sig
  rw [← List.map_take, List.any_map]
  have e : ((q.map LRow.sig).getD i (0, [])).2 = (q.getD i zRow).paths := by simp [List.getD, hi, LRow.sig]
  rw [e]
  rfl
/-- The place of somebody, by who alone. -/
theorem findQ_at {q : List LRow} {who : Int} {k : Nat} (hk : k < q.length) (h : q[k].who = who) (h0 : ∀ j (hj : j < q.length), j < k → q[j].who ≠ who) : findQ q who = k := by
  refine firstB_hit hk (by simp [List.getD, hk, h]) (fun j hj => ?_)
  have hjl : j < q.length := by omega
  have := h0 j hjl hj
  simp [List.getD, hjl, this]
theorem findQ_no {q : List LRow} {who : Int} (h : ∀ j (hj : j < q.length), q[j].who ≠ who) : findQ q who = -1 :=
  firstB_miss (fun j hj => by simp [List.getD, hj, h j hj])
theorem findQ_sig {q q' : List LRow} (h : sig q = sig q') (who : Int) : findQ q who = findQ q' who := by
  have hl : q.length = q'.length := by rw [← sig_length, h, sig_length]
  unfold findQ
  rw [hl]
  congr 1
  funext k
  by_cases hk : k < q.length
  · have hk' : k < q'.length := by omega
    have := sig_get hk
    rw [h, sig_get hk'] at this
    injection this with this
    injection this with e1 _
    simp [List.getD, hk, hk', e1]
  · have hk' : ¬ k < q'.length := by omega
    simp [List.getD, hk, hk']
theorem findQ_present {q : List LRow} {who : Int} (h : who ∈ q.map LRow.who) : ∃ k, ∃ hk : k < q.length, findQ q who = k ∧ q[k].who = who := by
  rcases findQ_cases q who with hm | ⟨k, hk, hm⟩
  · obtain ⟨a, ha, he⟩ := List.mem_map.1 h
    obtain ⟨i, hi, rfl⟩ := List.getElem_of_mem ha
    exfalso
    have h0 : ¬ ∃ x ∈ List.range q.length, ((q.getD x ⟨0, .nilIface, [], false⟩).who == who) = true := by
      rintro ⟨x, hx, hp⟩
      obtain ⟨y, hy⟩ : ∃ y, (List.range q.length).find? (fun k => (q.getD k ⟨0, .nilIface, [], false⟩).who == who) = some y := by
        cases hf : (List.range q.length).find? (fun k => (q.getD k ⟨0, .nilIface, [], false⟩).who == who) with
        | some y => exact ⟨y, rfl⟩
        | none => rw [List.find?_eq_none] at hf; exact absurd hp (hf x hx)
      rw [findQ, firstB, hy] at hm
      simp at hm
    exact h0 ⟨i, List.mem_range.2 hi, by simp [List.getD, hi, he]⟩
  · refine ⟨k, hk, hm, ?_⟩
    have hs : (List.range q.length).find? (fun k => (q.getD k ⟨0, .nilIface, [], false⟩).who == who) = some k := by
      unfold findQ firstB at hm
      split at hm
      · rename_i y hy
        have : y = k := by omega
        rw [← this]; exact hy
      · omega
    have := List.find?_some hs
    simpa [List.getD, hk] using this
/-- Somebody who isn't there neither has nor waits; who is there has or waits. -/
theorem has_absent {q : List LRow} {who : Int} (h : who ∉ q.map LRow.who) : findQ q who = -1 ∧ hasQ q who = false ∧ waitsQ q who = false := by
  have : findQ q who = -1 := findQ_no (fun j hj e => h (List.mem_map.2 ⟨q[j], List.getElem_mem hj, e⟩))
  refine ⟨this, ?_, ?_⟩
  · rw [hasQ, this]; rfl
  · rw [waitsQ, this]; rfl
theorem has_present {q : List LRow} {who : Int} (h : who ∈ q.map LRow.who) : waitsQ q who = !hasQ q who := by
  obtain ⟨k, hk, hf, _⟩ := findQ_present h
  rw [hasQ, waitsQ, hf]
  simp
theorem has_at {q : List LRow} (hs : Sound q) {k : Nat} (hk : k < q.length) {who : Int} (h : q[k].who = who) (h0 : ∀ j (hj : j < q.length), j < k → q[j].who ≠ who) : hasQ q who = canS (sig q) k := by
  rw [hasQ, findQ_at hk h h0, ← freeQ_sig q hk, ← hs k hk]
  simp [List.getD, hk]
theorem sig_ask {q : List LRow} {who : Int} {ps xs : List ByteArray} (v : Value) (he : (askErr q who ps).num = 0) (hx : setGo 0 [] ps = .ok xs) : sig (askNext q who ps v) = sig q ++ [(who, xs)] := by
  rw [askNext, if_pos he, hx]
  simp [sig, LRow.sig, SetR.outs]
theorem ask_new {q : List LRow} {who : Int} {ps xs : List ByteArray} (hn : who ∉ q.map LRow.who) (hl : q.length < 64) (hps : ps.length ≤ 16) (hx : setGo 0 [] ps = .ok xs) : askErr q who ps = .nil := by
  rw [askErr, (has_absent hn).1, if_neg (by decide), if_neg (by omega), if_neg (by omega), hx]
  rfl
theorem askHas_sig {q : List LRow} {who : Int} {ps xs : List ByteArray} (he : askErr q who ps = .nil) (hx : setGo 0 [] ps = .ok xs) : askHas q who ps = !(sig q).any fun a => meetB a.2 xs := by
  rw [askHas, he, hx, sig, List.any_map]
  rfl
theorem sig_wake (q : List LRow) (k : Nat) : sig (wake q k).1 = sig q := by
  have h := wake_who q k
  have hl := wake_length q k
  apply List.ext_getElem?
  intro i
  by_cases hi : i < q.length
  · have hi' : i < (wake q k).1.length := by omega
    rw [sig_get hi, sig_get hi']
    have e1 := congrArg (fun l => l[i]?) h.1
    have e2 := congrArg (fun l => l[i]?) h.2
    simp only [List.getElem?_map, List.getElem?_eq_getElem hi, List.getElem?_eq_getElem hi', Option.map_some, Option.some.injEq] at e1 e2
    rw [e1, e2]
  · rw [List.getElem?_eq_none (by rw [sig_length]; omega), List.getElem?_eq_none (by rw [sig_length]; omega)]
theorem sig_erase (q : List LRow) (k : Nat) : sig (q.eraseIdx k) = (sig q).eraseIdx k := by
  rw [sig, sig, List.eraseIdx_eq_take_drop_succ, List.eraseIdx_eq_take_drop_succ, List.map_append, List.map_take, List.map_drop]
theorem sig_rel {q : List LRow} {who : Int} {k : Nat} (h : findQ q who = k) : sig (relQ q who).1 = (sig q).eraseIdx k ∧ (relQ q who).2.2 = 0 := by
  rw [relQ, h, if_pos (by omega)]
  refine ⟨?_, rfl⟩
  show sig (wake (q.eraseIdx (k : Int).toNat) (q.length - 1)).1 = _
  rw [sig_wake, sig_erase]
  rfl
/-- Who is told by a release. -/
theorem wake_told {q : List LRow} : ∀ k, k ≤ q.length → (wake q k).2 = ((List.range k).filter fun i => !(q.getD i zRow).has && freeQ q i).map fun i => (q.getD i zRow).who
  | 0, _ => rfl
  | k + 1, hk => by
    have ih := wake_told (q := q) k (by omega)
    have hwl := wake_length q k
    have hkw : k < (wake q k).1.length := by omega
    have hkq : k < q.length := by omega
    have e : (wake q k).1.getD k zRow = (wake q k).1[k] := by simp [List.getD, hkw]
    have eq : q.getD k zRow = q[k] := by simp [List.getD, hkq]
    have hhas := wake_has (q := q) k (by omega) k hkw hkq
    rw [if_neg (by omega)] at hhas
    have hwho : (wake q k).1[k].who = q[k].who := by
      have e1 := congrArg (fun l => l[k]?) (wake_who q k).1
      simpa [hkq, hkw] using e1
    rw [List.range_succ, List.filter_append, List.map_append, ← ih]
    rw [wake, e, wake_free, hhas, hwho]
    have ef : List.filter (fun i => !(q.getD i zRow).has && freeQ q i) [k] = if (!q[k].has && freeQ q k) = true then [k] else [] := by
      rw [List.filter_cons, List.filter_nil, eq]
    rw [ef]
    by_cases hc : (!q[k].has && freeQ q k) = true
    · rw [if_pos hc, if_pos hc, List.map_cons, List.map_nil, eq]
    · rw [if_neg hc, if_neg hc]; simp
theorem rel_told {q : List LRow} {who : Int} {k : Nat} (h : findQ q who = k) (hk : k < q.length) : (relQ q who).2.1 = ((List.range (q.length - 1)).filter fun i => !((q.eraseIdx k).getD i zRow).has && freeQ (q.eraseIdx k) i).map fun i => ((q.eraseIdx k).getD i zRow).who := by
  rw [relQ, h, if_pos (by omega)]
  exact wake_told (q := q.eraseIdx k) (q.length - 1) (by rw [List.length_eraseIdx, if_pos hk]; omega)
end Go.Proofs.YtaaeobdihfbjfaaDoor
