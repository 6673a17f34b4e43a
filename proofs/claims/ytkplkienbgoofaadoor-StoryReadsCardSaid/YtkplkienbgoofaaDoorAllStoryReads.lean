/-
  The law StoryReads holds for every input: the row and its card, out of the walk; taking of the package-level variables just what the card ties.
-/
import Derived.Test.YtkplkienbgoofaaDoorStoryEv
import Derived.Test.YtkplkienbgoofaaDoorOffRow
import Derived.Test.YtkplkienbgoofaaDoorMaps
import Derived.Test.YtkplkienbgoofaaDoorTreeFits
import Derived.Deep.RegionHeld3
import Derived.Deep.AppendLies
import Derived.Laws.IdiomStrings
import Derived.Maps.AppendAt
import Derived.Deep.RegionLawGrows
import Derived.Outline
import Derived.Test.YtkplkienbgoofaaDoorArgs2
import Derived.Test.YtkplkienbgoofaaDoorCards
import Derived.Test.YtkplkienbgoofaaDoorTie
import Derived.Test.YtkplkienbgoofaaDoorRowKitE
import Derived.SevenTiedAt
import Derived.SizedLaws
set_option linter.unusedVariables false
set_option linter.unusedSimpArgs false
namespace Go.Proofs.YtkplkienbgoofaaDoor
open Go.RowKit Go.Maps Go.WideMaps Go.WideAt
theorem replay_app : ∀ (l t : List EvD) (Ms : List FM) (i : Nat), replayM Ms i (l ++ t) = (match replayM Ms i l with
    | .ok R => replayM R (i + l.length) t
    | .error k => .error k)
  | [], t, Ms, i => rfl
  | e :: l, t, Ms, i => by
    rw [List.cons_append, replayM, replayM]
    split
    · rw [replay_app l t]
      simp only [List.length_cons, Nat.add_assoc, Nat.add_comm 1]
    · split
      · rw [replay_app l t]
        simp only [List.length_cons, Nat.add_assoc, Nat.add_comm 1]
      · rfl
theorem replay_ext : ∀ (l : List EvD) (Ms : List FM) (i : Nat) {R : List FM}, replayM Ms i l = .ok R → ∃ r, R = Ms ++ r
  | [], Ms, i, R, h => ⟨[], by rw [replayM] at h; injection h with h; simp [h]⟩
  | e :: l, Ms, i, R, h => by
    rw [replayM] at h
    split at h
    · obtain ⟨r, hr⟩ := replay_ext l _ _ h
      exact ⟨_, by rw [hr, List.append_assoc]⟩
    · split at h
      · exact replay_ext l _ _ h
      · cases h
theorem replay_take {l : List EvD} {Ms R : List FM} {i : Nat} (h : replayM Ms i l = .ok R) (n : Nat) : ∃ R1 r, replayM Ms i (l.take n) = .ok R1 ∧ R = R1 ++ r := by
  have e := replay_app (l.take n) (l.drop n) Ms i
  rw [List.take_append_drop, h] at e
  cases h1 : replayM Ms i (l.take n) with
  | error k => rw [h1] at e; cases e
  | ok R1 =>
    rw [h1] at e
    obtain ⟨r, hr⟩ := replay_ext _ _ _ e.symm
    exact ⟨R1, r, rfl, hr⟩
theorem replay_len : ∀ (l : List EvD) (Ms : List FM) (i B : Nat) {R : List FM}, (∀ e ∈ l, EvGood e) → (∀ M ∈ Ms, M.length ≤ B) → replayM Ms i l = .ok R → ∀ M ∈ R, M.length ≤ B + 1000 * l.length
  | [], Ms, i, B, R, hg, hM, h => by
    rw [replayM] at h
    injection h with h
    subst h
    simpa using hM
  | e :: l, Ms, i, B, R, hg, hM, h => by
    rw [replayM] at h
    split at h
    · intro M hM2
      have := replay_len l _ _ (B + 1000) (fun e he => hg e (List.mem_cons_of_mem _ he)) (fun M hM1 => by
        rcases List.mem_append.1 hM1 with hM1 | hM1
        · have := hM M hM1; omega
        · rw [List.mem_singleton.1 hM1]
          have h1 := applyM_len (Ms.getLastD []) e.2.2.2.2.2
          have h2 := (hg e List.mem_cons_self).2.2.1
          have h3 : (Ms.getLastD []).length ≤ B := by
            rw [List.getLastD_eq_getLast?]
            cases hl : Ms.getLast? with
            | none => simp
            | some x => exact hM x (List.mem_of_getLast? hl)
          omega) h M hM2
      rw [List.length_cons]
      omega
    · split at h
      · intro M hM2
        have := replay_len l _ _ B (fun e he => hg e (List.mem_cons_of_mem _ he)) hM h M hM2
        rw [List.length_cons]
        omega
      · cases h
theorem replay_all (P : FM → Prop) : ∀ (l : List EvD) (Ms : List FM) (i : Nat) {R : List FM}, (∀ e ∈ l, ∀ M, P M → P (applyM M e.2.2.2.2.2)) → P [] → (∀ M ∈ Ms, P M) → replayM Ms i l = .ok R → ∀ M ∈ R, P M
  | [], Ms, i, R, hg, h0, hM, h => by
    rw [replayM] at h
    injection h with h
    subst h
    exact hM
  | e :: l, Ms, i, R, hg, h0, hM, h => by
    rw [replayM] at h
    have hg2 : ∀ e ∈ l, ∀ M, P M → P (applyM M e.2.2.2.2.2) := fun e he => hg e (List.mem_cons_of_mem _ he)
    split at h
    · exact replay_all P l _ _ hg2 h0 (fun M hM1 => by
        rcases List.mem_append.1 hM1 with hM1 | hM1
        · exact hM M hM1
        · rw [List.mem_singleton.1 hM1]
          refine hg e List.mem_cons_self _ ?_
          rw [List.getLastD_eq_getLast?]
          cases hl : Ms.getLast? with
          | none => exact h0
          | some x => exact hM x (List.mem_of_getLast? hl)) h
    · split at h
      · exact replay_all P l _ _ hg2 h0 hM h
      · cases h
theorem applyM_keys (Z : Nat) : ∀ (fs : List ChgD) (M : FM), (∀ x ∈ fs, x.1.size ≤ Z) → (∀ p ∈ M.map Prod.fst, p.size ≤ Z) → ∀ p ∈ (applyM M fs).map Prod.fst, p.size ≤ Z
  | [], M, hf, hM => hM
  | c :: t, M, hf, hM => by
    have hd : ∀ p ∈ (delM M c.1).map Prod.fst, p.size ≤ Z := fun p hp => by
      obtain ⟨x, hx, rfl⟩ := List.mem_map.1 hp
      exact hM _ (List.mem_map.2 ⟨x, (List.mem_filter.1 hx).1, rfl⟩)
    refine applyM_keys Z t (if c.2.2 then delM M c.1 else putM M c.1 (strOfNums c.2.1)) (fun x hx => hf x (List.mem_cons_of_mem _ hx)) ?_
    split
    · exact hd
    · intro p hp
      rw [putM, List.map_append, List.mem_append] at hp
      rcases hp with hp | hp
      · exact hd p hp
      · rw [List.map_cons, List.map_nil, List.mem_singleton] at hp
        rw [hp]
        exact hf c List.mem_cons_self
theorem replay_keys {l : List EvD} {R : List FM} (hg : ∀ e ∈ l, EvGood e) (h : replayM [[]] 0 l = .ok R) : ∀ M ∈ R, ∀ p ∈ M.map Prod.fst, p.size ≤ 1000 :=
  replay_all (fun M => ∀ p ∈ M.map Prod.fst, p.size ≤ 1000) l [[]] 0 (fun e he M hM => applyM_keys 1000 _ M (fun x hx => ((hg e he).2.2.2 x hx).1) hM) (fun p hp => by cases hp) (fun M hM => by rw [List.mem_singleton.1 hM]; exact fun p hp => by cases hp) h
theorem replay_count : ∀ (l : List EvD) (Ms : List FM) (i : Nat) {R : List FM}, replayM Ms i l = .ok R → R.length ≤ Ms.length + l.length
  | [], Ms, i, R, h => by
    rw [replayM] at h
    injection h with h
    rw [← h]
    simp
  | e :: l, Ms, i, R, h => by
    rw [replayM] at h
    split at h
    · have := replay_count l _ _ h
      rw [List.length_append, List.length_singleton] at this
      rw [List.length_cons]
      omega
    · split at h
      · have := replay_count l _ _ h
        rw [List.length_cons]
        omega
      · cases h
theorem replay_more {l : List EvD} {R : List FM} (h : replayM [[]] 0 l = .ok R) : replayM [[]] 0 (l ++ [(false, 0, ((R.length : Nat) : Int), ⟨#[]⟩, ⟨#[]⟩, [])]) = .error l.length := by
  rw [replay_app, h]
  simp [replayM]
theorem EvRow.take {w : World} {A : Option Addr} {l : List EvD} (h : EvRow w A l) (n : Nat) : EvRow w A (l.take n) := fun k hk => by
  have hk2 : k < l.length := by rw [List.length_take] at hk; omega
  have := h k hk2
  simp only [List.getElem_take]
  exact this
theorem wpList_append_clone_in {P : Program} {w3 : World} {ops : Array Oper} {rest : List Oper} {o : Oper} {a : Act} {Q : Exit → Act → World → Prop} (hgd : o.guard = none) (s x : Operand) (t : TypeId)
    (ho : o.op = .call { callee := .builtin .append, args := #[s, x], argTypes := #[t, t] })
    (e : TypeId) (i : TypeInfo) (z : Value) (size bytes : Nat) (ht : P.underlying t = some (.slice e)) (hi : P.info? e = some i) (hz : i.zero = some z)
    (hsize : i.size = size) (hby : i.bytes = bytes) (hzs : z.cells.size = size) (hsz : 0 < size)
    (A : Option Addr) (n c : Nat) (xs : List Value) (hs : a.eval s = .slice (some ⟨w3.heap.size, 0, none⟩) 0 0) (hx : a.eval x = .slice A n c) (hl : xs.length = n * size) (hc : ∀ ad, A = some ad → ∀ (j : Nat) u, xs[j]? = some u → w3.cell? (ad.add j) = some u) (hA : 0 < n → ∃ ad, A = some ad) (h1 : ∀ u ∈ xs, u.oneCell' = true)
    (h63 : n ≤ maxLen) (hbytes : n * bytes ≤ 140737488355328)
    (h : ∀ v' w', w'.ownsRow w3.heap.size e size v' n xs → Below w3.heap.size w3 w' → wpList P ops Q rest (a.put o.dst v') w') : wpList P ops Q (o :: rest) a (w3.alloc (.cells #[] e)) := by
  have hown0 : (w3.alloc (.cells #[] e)).ownsRow w3.heap.size e size (.slice (some ⟨w3.heap.size, 0, none⟩) 0 0) 0 [] := World.ownsRow_lit w3 #[] 0 (Nat.le_refl _) (by simp) (by simp)
  have hb1 := below_one w3 (.cells #[] e)
  by_cases hn : 0 < n
  · obtain ⟨ad, rfl⟩ := hA hn
    refine wpList_append_own _ hgd s x t ho w3.heap.size e i z size bytes ht hi hz hsize hby hzs hsz (.slice (some ⟨w3.heap.size, 0, none⟩) 0 0) 0 [] hs hown0 ad n c xs hx hl (fun j u hj => cell_below hb1 (hc ad rfl j u hj)) h1 (by omega) (by simpa using hbytes) hb1.size ?_
    intro v' w' ho' hg' _
    refine h v' w' (by simpa using ho') (hb1.grown hg' hb1.size (fun k hk => ?_))
    have : w3.heap.size = k := by simpa [Value.ownBlock] using hk
    omega
  · have h0 : n = 0 := by omega
    subst h0
    have hxs : xs = [] := List.length_eq_zero_iff.1 (by simpa using hl)
    subst hxs
    exact wpList_append_nothing hgd s x t ho e i ht hi (some ⟨w3.heap.size, 0, none⟩) 0 0 hs (Nat.le_refl _) A c hx (h _ _ hown0 hb1)
end Go.Proofs.YtkplkienbgoofaaDoor

namespace Go.Proofs.YtkplkienbgoofaaDoor
open Go.RowKit Go.Maps Go.WideMaps Go.WideAt
/-- Is a path one of the module "r"? -/
def isR (p : ByteArray) : Bool := decide (2 < p.size) && ((p.extract 0 2).toList == [114, 47])
def byteL (d : ByteArray) : List Int := d.data.toList.map fun c => (c.toNat : Int)
theorem byteL_back (d : ByteArray) : strOfNums (byteL d) = d := by
  apply ba_ext
  rw [strOfNums_data, byteL, List.map_map]
  conv => rhs; rw [← List.map_id d.data.toList]
  exact List.map_congr_left (fun x _ => by
    show UInt8.ofNat ((x.toNat : Int)).toNat = x
    rw [Int.toNat_natCast]
    exact UInt8.ofNat_toNat)
theorem byteL_len (d : ByteArray) : (byteL d).length = d.size := by rw [byteL, List.length_map]; rfl
theorem byteL_wf (d : ByteArray) : ∀ x ∈ byteL d, (Lit.int .u8 x).wf = true := fun x hx => by
  obtain ⟨c, _, rfl⟩ := List.mem_map.1 hx
  have h := c.toNat_lt
  generalize c.toNat = n at h ⊢
  have h1 : n < 256 := h
  clear h
  simp [Lit.wf, IntKind.min, IntKind.max, IntKind.signed, IntKind.bits]
  omega
def oneR (M : FM) (p : ByteArray) : ChgD := (p.extract 2 p.size, byteL ((getM M p).getD ⟨#[]⟩), false)
/-- The files of a map beneath "r". -/
def readR (M : FM) (K : List ByteArray) : List ChgD := (K.filter isR).map (oneR M)
theorem readR_snoc (M : FM) (K : List ByteArray) (k : Nat) (h : k < K.length) : readR M (K.take (k + 1)) = readR M (K.take k) ++ if isR K[k] then [oneR M K[k]] else [] := by
  unfold readR
  rw [List.take_succ_eq_append_getElem h, List.filter_append, List.map_append]
  cases hp : isR K[k] <;> simp [hp]
theorem isR_has (p : ByteArray) : isR p = (beneathB ⟨#[114]⟩ p).2 := by
  have hs : slash ⟨#[114]⟩ = ⟨#[114, 47]⟩ := by rfl
  have he : (⟨#[114]⟩ : ByteArray).toList.isEmpty = false := by rw [ByteArray.toList_eq]; rfl
  rw [beneathB, if_neg (by rw [he]; decide)]
  show isR p = (hasP p (slash ⟨#[114]⟩) && !(trimP p (slash ⟨#[114]⟩)).toList.isEmpty)
  rw [hs]
  have hh := Lib.hasPrefix_of_take p.data.toList [114, 47]
  have hz : p.data.toList.length = p.size := rfl
  have e1 : hasP p ⟨#[114, 47]⟩ = Lib.hasPrefix p.data.toList [114, 47] := rfl
  have e2 : (p.extract 0 2).toList = p.data.toList.take 2 := by rw [ByteArray.toList_eq, Lib.extract_data]; simp
  unfold isR
  rw [e1, e2]
  by_cases hp : Lib.hasPrefix p.data.toList [114, 47] = true
  · rw [hp, trimP_yes (by rw [e1]; exact hp), ByteArray.toList_eq, Lib.extract_to_end]
    rw [← hh] at hp
    simp only [Bool.and_eq_true, decide_eq_true_eq] at hp
    obtain ⟨h1, h2⟩ := hp
    have h3 : p.data.toList.take 2 = [114, 47] := by simpa using h2
    rw [h3]
    have hdl : (p.data.toList.drop 2).length = p.size - 2 := by rw [List.length_drop, hz]
    have hd : (p.data.toList.drop 2).isEmpty = !decide (2 < p.size) := by
      cases hx : p.data.toList.drop 2 with
      | nil =>
        rw [hx, List.length_nil] at hdl
        have : ¬ 2 < p.size := by omega
        simp [this]
      | cons a r =>
        rw [hx, List.length_cons] at hdl
        have : 2 < p.size := by omega
        simp [this]
    have hsz : (⟨#[114, 47]⟩ : ByteArray).size = 2 := rfl
    rw [hsz, hd]
    simp
  · have hf : Lib.hasPrefix p.data.toList [114, 47] = false := by simpa using hp
    rw [hf, Bool.false_and]
    rw [← hh] at hf
    by_cases hq : 2 < p.size
    · have : (p.data.toList.take 2 == [114, 47]) = false := by
        by_cases h3 : p.data.toList.take 2 = [114, 47]
        · exfalso
          simp [h3] at hf
          omega
        · simpa using h3
      rw [this]; simp
    · simp [hq]
theorem isR_whole {p : ByteArray} (h : isR p = true) : (⟨#[114]⟩ : ByteArray) ++ ⟨#[47]⟩ ++ p.extract 2 p.size = p := by
  unfold isR at h
  rw [Bool.and_eq_true, ByteArray.toList_eq, Lib.extract_data] at h
  have h2 : p.data.toList.take 2 = [114, 47] := by simpa using h.2
  apply ba_ext
  simp only [ByteArray.data_append, Array.toList_append]
  rw [Lib.extract_to_end]
  have : ([114] : List UInt8) ++ [47] = p.data.toList.take 2 := by rw [h2]; rfl
  show ([114] ++ [47]) ++ p.data.toList.drop 2 = p.data.toList
  rw [this, List.take_append_drop]
theorem allE_r : allE ⟨#[114]⟩ ⟨#[]⟩ = ⟨#[114]⟩ := by
  rw [allE, if_pos]
  rw [ByteArray.toList_eq]; rfl
theorem underE_r (p : ByteArray) : underE ⟨#[114]⟩ ⟨#[]⟩ p = isR p := by
  rw [underE, allE_r, ← isR_has]
  have : (⟨#[]⟩ : ByteArray).toList.isEmpty = true := by rw [ByteArray.toList_eq]; rfl
  rw [this]; simp
theorem goes_reads (M : FM) : ∀ (K : List ByteArray) (seen : List ByteArray), K.Nodup → (∀ p ∈ K, p ∉ seen ∧ isR p = true ∧ p ∈ M.map Prod.fst) → goesE M ⟨#[114]⟩ ⟨#[114]⟩ seen (K.map (oneR M)) = true
  | [], seen, _, _ => rfl
  | p :: t, seen, hn, h => by
    obtain ⟨h1, h2, h3⟩ := h p List.mem_cons_self
    obtain ⟨d, hd⟩ := Option.isSome_iff_exists.1 (getM_some.2 h3)
    rw [List.map_cons, goesE]
    have hw : (⟨#[114]⟩ : ByteArray) ++ ⟨#[47]⟩ ++ (oneR M p).1 = p := isR_whole h2
    have hdat : strOfNums (oneR M p).2.1 = d := by
      show strOfNums (byteL ((getM M p).getD ⟨#[]⟩)) = d
      rw [byteL_back, hd]; rfl
    rw [hw, hdat, hd, ← isR_has, h2]
    have hm : memB p seen = false := by
      cases hb : memB p seen with
      | false => rfl
      | true => exact absurd (memB_true.1 hb) h1
    rw [hm]
    have hrest := goes_reads M t (seen ++ [p]) (List.nodup_cons.1 hn).2 (fun q hq => by
      obtain ⟨g1, g2, g3⟩ := h q (List.mem_cons_of_mem _ hq)
      refine ⟨fun hmem => ?_, g2, g3⟩
      rcases List.mem_append.1 hmem with hmem | hmem
      · exact g1 hmem
      · rw [List.mem_singleton] at hmem
        subst hmem
        exact (List.nodup_cons.1 hn).1 hq)
    rw [hrest]
    simp [sameO]
/-- Files that are had of a map are just those of it. -/
theorem has_reads {M : FM} {K : List ByteArray} (hM : (M.map Prod.fst).Nodup) (h : PathsOf K M) : hasM M ⟨#[114]⟩ ⟨#[]⟩ (readR M K) = true := by
  have hKn : K.Nodup := h.rising.imp (fun {a b} h e => by rw [e] at h; exact List.lt_irrefl _ h)
  have hu : underE ⟨#[114]⟩ ⟨#[]⟩ = isR := funext underE_r
  rw [hasM, hu, allE_r]
  have hl : ((M.map Prod.fst).filter isR).length = (readR M K).length := by
    rw [readR, List.length_map]
    exact ((nodup_perm hM hKn (fun p => (h.mem p).symm)).filter _).length_eq
  rw [decide_eq_true hl, Bool.true_and]
  exact goes_reads M _ [] (List.filter_sublist.nodup hKn) (fun p hp => ⟨by simp, (List.mem_filter.1 hp).2, (h.mem p).1 (List.mem_filter.1 hp).1⟩)
/-- An event by which the files of a version were had. -/
def ReadEv (Ms : List FM) (e : EvD) : Prop := e.1 = false ∧ 0 ≤ e.2.2.1 ∧ e.2.2.1 < (Ms.length : Int) ∧ hasM (Ms.getD e.2.2.1.toNat []) e.2.2.2.1 e.2.2.2.2.1 e.2.2.2.2.2 = true
theorem replay_read : ∀ (R : List EvD) (Ms : List FM) (i : Nat), (∀ e ∈ R, ReadEv Ms e) → replayM Ms i R = .ok Ms
  | [], Ms, i, _ => rfl
  | e :: t, Ms, i, h => by
    obtain ⟨h1, h2, h3, h4⟩ := h e List.mem_cons_self
    rw [replayM, if_neg (by rw [h1]; simp), if_pos (by rw [h1, h4, decide_eq_true h2, decide_eq_true h3]; rfl)]
    exact replay_read t Ms (i + 1) (fun e he => h e (List.mem_cons_of_mem _ he))
theorem replay_reads {l R : List EvD} {Ms : List FM} (hl : replayM [[]] 0 l = .ok Ms) (hR : ∀ e ∈ R, ReadEv Ms e) : replayM [[]] 0 (l ++ R) = .ok Ms := by
  rw [replay_app, hl]
  exact replay_read R Ms _ hR
/-! sizes -/
def okF (x : ByteArray × ByteArray) : Prop := x.1.size ≤ 100 ∧ x.2.size ≤ 1000
theorem applyM_okF : ∀ (fs : List ChgD) (M : FM), (∀ x ∈ fs, fitC3 x = true) → (∀ x ∈ M, okF x) → ∀ x ∈ applyM M fs, okF x
  | [], M, hf, hM => hM
  | c :: t, M, hf, hM => by
    have hd : ∀ x ∈ delM M c.1, okF x := fun x hx => hM x (List.mem_filter.1 hx).1
    refine applyM_okF t (if c.2.2 then delM M c.1 else putM M c.1 (strOfNums c.2.1)) (fun x hx => hf x (List.mem_cons_of_mem _ hx)) ?_
    split
    · exact hd
    · intro x hx
      rcases List.mem_append.1 hx with hx | hx
      · exact hd x hx
      · rw [List.mem_singleton] at hx
        subst hx
        have := hf c List.mem_cons_self
        simp only [fitC3, Bool.and_eq_true, decide_eq_true_eq] at this
        exact ⟨this.1, by rw [strOfNums_size]; exact this.2⟩
theorem nowM_okF {l : List (List ChgD)} (h : ∀ c ∈ l, ∀ x ∈ c, fitC3 x = true) : ∀ k, ∀ x ∈ nowM l k, okF x
  | 0 => by simp [nowM]
  | k + 1 => by
    have ih := nowM_okF h k
    by_cases hk : k < l.length
    · rw [nowM_succ hk]
      exact applyM_okF _ _ (h _ (List.getElem_mem hk)) ih
    · have e : nowM l (k + 1) = nowM l k := by rw [nowM, nowM, List.take_of_length_le (by omega), List.take_of_length_le (by omega)]
      rw [e]; exact ih
theorem nowM_len20 {l : List (List ChgD)} (h : ∀ c ∈ l, c.length ≤ 20) : ∀ k, (nowM l k).length ≤ 20 * k
  | 0 => by simp [nowM]
  | k + 1 => by
    have ih := nowM_len20 h k
    by_cases hk : k < l.length
    · rw [nowM_succ hk]
      have h1 := applyM_len (nowM l k) l[k]
      have h2 := h _ (List.getElem_mem hk)
      omega
    · have e : nowM l (k + 1) = nowM l k := by rw [nowM, nowM, List.take_of_length_le (by omega), List.take_of_length_le (by omega)]
      rw [e]; omega
theorem getM_mem {M : FM} {p d : ByteArray} (h : getM M p = some d) : (p, d) ∈ M := by
  unfold getM at h
  cases hf : M.find? fun x => decide (x.1 = p) with
  | none => rw [hf] at h; cases h
  | some x =>
    rw [hf] at h
    have h1 := List.mem_of_find?_eq_some hf
    have h2 := List.find?_some hf
    have h3 : x.1 = p := by simpa using h2
    have h4 : x.2 = d := Option.some.inj h
    rw [← h3, ← h4]
    exact h1
theorem oneR_ok {M : FM} (hM : ∀ x ∈ M, okF x) {p : ByteArray} (hp : p ∈ M.map Prod.fst) : (oneR M p).1.size ≤ 1000 ∧ (oneR M p).2.1.length ≤ 300000 := by
  obtain ⟨d, hd⟩ := Option.isSome_iff_exists.1 (getM_some.2 hp)
  have := hM _ (getM_mem hd)
  have h1 : p.size ≤ 100 := this.1
  have h2 : d.size ≤ 1000 := this.2
  refine ⟨?_, ?_⟩
  · show (p.extract 2 p.size).size ≤ 1000
    rw [ByteArray.size_extract]; omega
  · show (byteL ((getM M p).getD ⟨#[]⟩)).length ≤ 300000
    rw [byteL_len, hd]
    show d.size ≤ 300000
    omega
theorem fitL_all {l : List EvD} (h : fitL l = true) : ∀ o ∈ l, o.2.2.2.2.2.length ≤ 20 ∧ ∀ c ∈ o.2.2.2.2.2, fitC3 c = true := by
  simp only [fitL, Bool.and_eq_true, decide_eq_true_eq, List.all_eq_true, fitE] at h
  exact fun o ho => ⟨(h.1.2 o ho).1.1, (h.1.2 o ho).2⟩
/-- An event of files that were had is of a size that Replay is tried with. -/
theorem readR_good {M : FM} {K : List ByteArray} (h : PathsOf K M) (hM : ∀ x ∈ M, okF x) (hl : M.length ≤ 1000) (v : Int) : EvGood ((false, 0, v, ⟨#[114]⟩, ⟨#[]⟩, readR M K) : EvD) := by
  refine ⟨by show (1 : Nat) ≤ 1000; omega, by show (0 : Nat) ≤ 1000; omega, ?_, fun x hx => ?_⟩
  · show (readR M K).length ≤ 1000
    rw [readR, List.length_map]
    have := List.length_filter_le isR K
    have := h.len
    omega
  · have hx : x ∈ readR M K := hx
    obtain ⟨p, hp, rfl⟩ := List.mem_map.1 hx
    exact oneR_ok hM ((h.mem p).1 (List.mem_filter.1 hp).1)
end Go.Proofs.YtkplkienbgoofaaDoor

namespace Go.Proofs.YtkplkienbgoofaaDoor
open Go.RowKit Go.Maps Go.WideMaps Go.WideAt
/-- All but some blocks stays. -/
structure FrB (S : Nat → Prop) (w w' : World) : Prop where
  os : w'.os = w.os
  tape : w'.tape = w.tape
  output : w'.output = w.output
  size : w.heap.size ≤ w'.heap.size
  block : ∀ k, k < w.heap.size → ¬ S k → w'.heap[k]? = w.heap[k]?
theorem FrB.refl (S : Nat → Prop) (w : World) : FrB S w w := ⟨rfl, rfl, rfl, Nat.le_refl _, fun _ _ _ => rfl⟩
theorem FrB.of_below {S : Nat → Prop} {w w' : World} (h : Below w.heap.size w w') : FrB S w w' := ⟨h.os, h.tape, h.output, h.size, fun k hk _ => h.block k hk⟩
theorem FrB.of_grown {S : Nat → Prop} {w w' : World} {row : Option Nat} (h : w.grownBy w' row) (hr : ∀ b, row = some b → b < w.heap.size → S b) : FrB S w w' := ⟨h.os, h.tape, h.output, h.size, fun k hk hn => h.block k hk (fun e => hn (hr k e.symm hk))⟩
theorem FrB.trans {S S' : Nat → Prop} {w w1 w2 : World} (h1 : FrB S w w1) (h2 : FrB S' w1 w2) (hs : ∀ k, k < w.heap.size → S' k → S k) : FrB S w w2 :=
  ⟨h2.os.trans h1.os, h2.tape.trans h1.tape, h2.output.trans h1.output, Nat.le_trans h1.size h2.size, fun k hk hn => (h2.block k (Nat.lt_of_lt_of_le hk h1.size) (fun h => hn (hs k hk h))).trans (h1.block k hk hn)⟩
theorem FrB.mono {S S' : Nat → Prop} {w w' : World} (h : FrB S w w') (hs : ∀ k, k < w.heap.size → S k → S' k) : FrB S' w w' := ⟨h.os, h.tape, h.output, h.size, fun k hk hn => h.block k hk (fun h => hn (hs k hk h))⟩
theorem FrB.below {S : Nat → Prop} {w w' : World} {B : Nat} (h : FrB S w w') (hB : B ≤ w.heap.size) (hS : ∀ k, S k → B ≤ k) : Below B w w' :=
  ⟨h.os, h.tape, h.output, h.size, fun k hk => h.block k (by omega) (fun hs => by have := hS k hs; omega)⟩
theorem FrB.set {S : Nat → Prop} {w : World} {b n : Nat} (v : Value) (hb : S b) : FrB S w (w.setCell ⟨b, n, none⟩ v) := ⟨rfl, rfl, rfl, by simp, fun k _ hn => Below.heap_setCell w ⟨b, n, none⟩ _ k (fun e => hn (by rw [e]; exact hb))⟩
theorem FrB.own {S : Nat → Prop} {w w' : World} (h : FrB S w w') {base size n : Nat} {e : TypeId} {v : Value} {xs : List Value} (ho : w.ownsRow base e size v n xs) (hne : ∀ b, v.ownBlock = some b → ¬ S b) : w'.ownsRow base e size v n xs := by
  obtain ⟨a, c⟩ := ho
  refine ⟨a, ?_⟩
  rcases c with c | ⟨g, cap, cur, rfl, hbb, hg, r⟩
  · exact .inl c
  · exact .inr ⟨g, cap, cur, rfl, hbb, (h.block g (lt_of_block hg) (hne g rfl)).trans hg, r⟩
theorem FrB.off {S : Nat → Prop} {w w' : World} (h : FrB S w w') {base size n : Nat} {e : TypeId} {v : Value} {xs : List Value} (ho : OffRow w base e size v n xs) (hne : ∀ b, v.ownBlock = some b → ¬ S b) : OffRow w' base e size v n xs := by
  obtain ⟨a, c⟩ := ho
  refine ⟨a, ?_⟩
  rcases c with c | ⟨g, off, cap, cur, rfl, hbb, hg, r⟩
  · exact .inl c
  · exact .inr ⟨g, off, cap, cur, rfl, hbb, (h.block g (lt_of_block hg) (hne g rfl)).trans hg, r⟩
theorem FrB.at_ {S : Nat → Prop} {w w' : World} (h : FrB S w w') {k : Nat} {o : Obj} (ho : w.heap[k]? = some o) (hne : ¬ S k) : w'.heap[k]? = some o := (h.block k (lt_of_block ho) hne).trans ho
/-- Are some blocks rows of some types? -/
def OfTypes (w : World) (S : Nat → Prop) (ts : List TypeId) : Prop := ∀ k, S k → k < w.heap.size → ∃ cs t fr, w.heap[k]? = some (Obj.cells cs t fr) ∧ t ∈ ts
theorem OfTypes.cells {w : World} {S : Nat → Prop} {ts : List TypeId} (h : OfTypes w S ts) {k : Nat} {cs : Array Value} {t : TypeId} {fr : Nat × Nat} (hk : w.heap[k]? = some (Obj.cells cs t fr)) (ht : t ∉ ts) : ¬ S k := fun hs => by
  obtain ⟨cs2, t2, fr2, h1, h2⟩ := h k hs (lt_of_block hk)
  rw [hk] at h1
  injection h1 with h1
  injection h1 with _ h3
  exact ht (h3 ▸ h2)
theorem OfTypes.map {w : World} {S : Nat → Prop} {ts : List TypeId} (h : OfTypes w S ts) {k : Nat} {es : Array MapEntry} {ck : Nat} (hk : w.heap[k]? = some (Obj.map es ck)) : ¬ S k := fun hs => by
  obtain ⟨cs2, t2, fr2, h1, h2⟩ := h k hs (lt_of_block hk)
  rw [hk] at h1
  cases h1
theorem OfTypes.row {w : World} {S : Nat → Prop} {ts : List TypeId} (h : OfTypes w S ts) {base size n : Nat} {e : TypeId} {v : Value} {xs : List Value} (ho : w.ownsRow base e size v n xs) (ht : e ∉ ts) : ∀ b, v.ownBlock = some b → ¬ S b := fun b hb => by
  rcases ho.2 with ⟨rfl, _⟩ | ⟨k, cap, cur, rfl, _, hh, _⟩
  · simp [Value.ownBlock] at hb
  · have : k = b := by simpa [Value.ownBlock] using hb
    subst this
    exact h.cells hh ht
theorem OfTypes.offRow {w : World} {S : Nat → Prop} {ts : List TypeId} (h : OfTypes w S ts) {base size n : Nat} {e : TypeId} {v : Value} {xs : List Value} (ho : OffRow w base e size v n xs) (ht : e ∉ ts) : ∀ b, v.ownBlock = some b → ¬ S b := fun b hb => by
  obtain ⟨cur, hc⟩ := ho.blk b hb
  exact h.cells hc ht
theorem FrB.mapAs {S : Nat → Prop} {w w' : World} (h : FrB S w w') {P : Program} {k : TypeId} {b n : Nat} {m : Lit → Option Value} (hm : MapAs w P k b n m) (hne : ¬ S b) : MapAs w' P k b n m := by
  obtain ⟨es, ck, hb⟩ := hm.isMap
  exact hm.block (h.block b (lt_of_block hb) hne)
end Go.Proofs.YtkplkienbgoofaaDoor

namespace Go.Proofs.YtkplkienbgoofaaDoor
open Go.RowKit
open Go.Proofs.YtkplkienbgoofaaDoorW.PrintWords (Kd ReadsRow)
def kLst : Kd (List ChgD) := Kd.slice 42 kChg
/-- Lists of changes in memory. -/
def ListRow (w : World) (A : Option Addr) (l : List (List ChgD)) : Prop := ∀ k (h : k < l.length), ∃ b off A' c', A = some ⟨b, off, none⟩ ∧ w.cell? ⟨b, off + k, none⟩ = some (.slice A' l[k].length c') ∧ l[k].length ≤ c' ∧ ChgRow w A' l[k]
theorem ListRow.below {w w' : World} {A : Option Addr} {l : List (List ChgD)} (h : ListRow w A l) (hb : Below w.heap.size w w') : ListRow w' A l := fun k hk => by
  obtain ⟨b, off, A', c', h0, h1, h2, h3⟩ := h k hk
  exact ⟨b, off, A', c', h0, cell_below hb h1, h2, h3.below hb⟩
theorem listRow_of {w : World} {A : Option Addr} {l : List (List ChgD)} (h : Kd.C kLst w A l.length l) : ListRow w A l ∧ (∀ o ∈ l, o.length ≤ 9223372036854775807 ∧ ∀ x ∈ o, x.2.1.length ≤ 9223372036854775807) := by
  have hall : ∀ k (hk : k < l.length), ∃ ad A' c', A = some ad ∧ l[k].length ≤ c' ∧ l[k].length ≤ 9223372036854775807 ∧ Kd.C kChg w A' l[k].length l[k] ∧ w.cell? (ad.add k) = some (.slice A' l[k].length c') := by
    intro k hk
    obtain ⟨ad, e, hc⟩ := h.2.2 (by omega)
    obtain ⟨c, _, ⟨A', c', rfl, hle, hr⟩, hcell⟩ := hc k _ (List.getElem?_eq_getElem hk)
    have h1 := hcell 0 _ rfl
    exact ⟨ad, A', c', e, hle, hr.2.1, hr, by simpa [kLst, Kd.slice] using h1⟩
  refine ⟨fun k hk => ?_, fun o ho => ?_⟩
  · obtain ⟨ad0, _, _, e0, _, _, _, hcell0⟩ := hall 0 (by omega)
    obtain ⟨ad, A', c', e, hle, _, hr, hcell⟩ := hall k hk
    obtain ⟨b, off, spot⟩ := ad
    have hs : spot = none := by
      have e1 : ad0 = ⟨b, off, spot⟩ := Option.some.inj (e0.symm.trans e)
      rw [e1] at hcell0
      have := World.cell?_spot hcell0
      simpa [Addr.add] using this
    subst hs
    rw [Addr.add_lit] at hcell
    exact ⟨b, off, A', c', e, hcell, hle, chgRow_of hr⟩
  · obtain ⟨k, hk, rfl⟩ := List.getElem_of_mem ho
    obtain ⟨ad, A', c', e, hle, hl, hr, hcell⟩ := hall k hk
    exact ⟨hl, chgLen_of hr⟩
end Go.Proofs.YtkplkienbgoofaaDoor

namespace Go.Proofs.YtkplkienbgoofaaDoor
variable {P : Program} {ops : Array Oper} {Q : Exit → Act → World → Prop} {md : Region.Mode} {S : World → Prop} {k : Nat}
/-- Whatever order is picked from here on; and S holds behind each operation that is carried out before number k. -/
def wpAnyG (P : Program) (md : Region.Mode) (ops : Array Oper) (Q : Exit → Act → World → Prop) (S : World → Prop) (k : Nat) : Nat → Array Bool → Act → World → Prop
  | 0, listed, a, w => Region.ready md ops listed = [] ∧ Q .normal a w
  | fuel + 1, listed, a, w =>
    (Region.ready md ops listed = [] → Q .normal a w) ∧
    ∀ i ∈ Region.ready md ops listed, wpOp P ops Q i (fun a' w' => ((listed.setIfInBounds i true).getD k true = false → S w') ∧ wpAnyG P md ops Q S k fuel (listed.setIfInBounds i true) a' w') a w
theorem wpAny_of_G : ∀ (fuel : Nat) (listed : Array Bool) (a : Act) (w : World), wpAnyG P md ops Q S k fuel listed a w → wpAny P md ops Q fuel listed a w
  | 0, _, _, _, h => h
  | fuel + 1, _, _, _, h => ⟨h.1, fun i hi => wpOp_mono (fun a' w' h' => wpAny_of_G fuel _ a' w' h'.2) (h.2 i hi)⟩
theorem wpAnyG_first {i : Nat} {oi : Oper} {v : Value} (hi : ops[i]? = some oi) (hsel : ∀ (j : Nat) (o : Oper) cs b, ops[j]? = some o → o.op ≠ .select cs b)
    (hQ : ∀ c a w, Q (.panic c) (a.put oi.dst v) w → Q (.panic c) a w) {ok : Oper} (hk : ops[k]? = some ok) (hw : ∃ e ∈ ok.after, Region.binds md e = true ∧ e.on = i) :
    ∀ (fuel : Nat) (listed : Array Bool) (a : Act) (w : World),
      (∀ j oj, ops[j]? = some oj → j ≠ i → listed.getD j true = false → (∀ e ∈ oj.after, Region.binds md e = true → e.on ≠ i) → oi.apart ops oj = true) →
      i ∈ Region.ready md ops listed → YieldsIf P ops S oi v a → S w → i ≠ k → listed.getD k true = false →
      wpAnyG P md ops Q S k fuel (listed.setIfInBounds i true) (a.put oi.dst v) w → wpAnyG P md ops Q S k (fuel + 1) listed a w := by
  intro fuel
  induction fuel with
  | zero =>
    intro listed a w _ hr hy hS hik hlk H
    refine ⟨fun h => (by rw [h] at hr; cases hr), fun j hj => ?_⟩
    by_cases hji : j = i
    · subst hji; exact hy.wpOp hi hS ⟨fun _ => hS, H⟩
    · have := ready_mono hj hji
      rw [H.1] at this
      cases this
  | succ fuel ih =>
    intro listed a w hfree hr hy hS hik hlk H
    refine ⟨fun h => (by rw [h] at hr; cases hr), fun j hj => ?_⟩
    by_cases hji : j = i
    · subst hji; exact hy.wpOp hi hS ⟨fun _ => hS, H⟩
    · have h1 := H.2 j (ready_mono hj hji)
      obtain ⟨hjun, oj, hoj, hall⟩ := mem_ready.1 hj
      have hnot : ∀ e ∈ oj.after, Region.binds md e = true → e.on ≠ i := fun e he hb heq => by
        have h1 := hall e he hb
        have h0 := (mem_ready.1 hr).1
        rw [heq] at h1
        rcases Nat.lt_or_ge i listed.size with h' | h'
        · simp [h'] at h0 h1; rw [h0] at h1; cases h1
        · simp [Array.getElem?_eq_none h'] at h1
      have hjk : j ≠ k := fun e => by
        subst e
        obtain ⟨e, he, hb, heq⟩ := hw
        have : oj = ok := Option.some.inj (hoj.symm.trans hk)
        exact hnot e (this ▸ he) hb heq
      have h2 := wpOp_putIf hoj (hfree j oj hoj hji hjun hnot) (fun cs b => hsel i oi cs b hi) (fun cs b => hsel j oj cs b hoj) hQ hy h1
      have hfree' : ∀ k ok, ops[k]? = some ok → k ≠ i → (listed.setIfInBounds j true).getD k true = false →
          (∀ e ∈ ok.after, Region.binds md e = true → e.on ≠ i) → oi.apart ops ok = true := fun k ok hk hki hun hno => by
        refine hfree k ok hk hki ?_ hno
        by_cases hjk : j = k
        · subst hjk; exact hjun
        · rw [getD_set_ne true hjk] at hun; exact hun
      have hlk' : (listed.setIfInBounds j true).getD k true = false := by rw [getD_set_ne true hjk]; exact hlk
      refine wpOp_mono (fun a' w' h3 => ?_) h2
      have hS' : S w' := h3.2.1 (by rw [getD_set_ne true hjk, getD_set_ne true hik]; exact hlk)
      refine ⟨fun _ => hS', ih (listed.setIfInBounds j true) a' w' hfree' (ready_mono hr (Ne.symm hji)) h3.1 hS' hik hlk' ?_⟩
      rw [Array.setIfInBounds_comm _ _ hji]
      exact h3.2.2
/-- What yields in whatever world may be taken first at any time. -/
theorem wpAnyG_pure {i : Nat} {oi : Oper} {v : Value} (hi : ops[i]? = some oi) (hsel : ∀ (j : Nat) (o : Oper) cs b, ops[j]? = some o → o.op ≠ .select cs b)
    (hQ : ∀ c a w, Q (.panic c) (a.put oi.dst v) w → Q (.panic c) a w) :
    ∀ (fuel : Nat) (listed : Array Bool) (a : Act) (w : World),
      (∀ j oj, ops[j]? = some oj → j ≠ i → listed.getD j true = false → (∀ e ∈ oj.after, Region.binds md e = true → e.on ≠ i) → oi.apart ops oj = true) →
      i ∈ Region.ready md ops listed → YieldsIf P ops (fun _ => True) oi v a → i ≠ k → (listed.getD k true = false → S w) →
      wpAnyG P md ops Q S k fuel (listed.setIfInBounds i true) (a.put oi.dst v) w → wpAnyG P md ops Q S k (fuel + 1) listed a w := by
  intro fuel
  induction fuel with
  | zero =>
    intro listed a w _ hr hy hik hS H
    refine ⟨fun h => (by rw [h] at hr; cases hr), fun j hj => ?_⟩
    by_cases hji : j = i
    · subst hji; exact hy.wpOp hi trivial ⟨fun h => hS (by rw [getD_set_ne true hik] at h; exact h), H⟩
    · have := ready_mono hj hji
      rw [H.1] at this
      cases this
  | succ fuel ih =>
    intro listed a w hfree hr hy hik hS H
    refine ⟨fun h => (by rw [h] at hr; cases hr), fun j hj => ?_⟩
    by_cases hji : j = i
    · subst hji; exact hy.wpOp hi trivial ⟨fun h => hS (by rw [getD_set_ne true hik] at h; exact h), H⟩
    · have h1 := H.2 j (ready_mono hj hji)
      obtain ⟨hjun, oj, hoj, hall⟩ := mem_ready.1 hj
      have hnot : ∀ e ∈ oj.after, Region.binds md e = true → e.on ≠ i := fun e he hb heq => by
        have h1 := hall e he hb
        have h0 := (mem_ready.1 hr).1
        rw [heq] at h1
        rcases Nat.lt_or_ge i listed.size with h' | h'
        · simp [h'] at h0 h1; rw [h0] at h1; cases h1
        · simp [Array.getElem?_eq_none h'] at h1
      have h2 := wpOp_putIf hoj (hfree j oj hoj hji hjun hnot) (fun cs b => hsel i oi cs b hi) (fun cs b => hsel j oj cs b hoj) hQ hy h1
      have hfree' : ∀ k ok, ops[k]? = some ok → k ≠ i → (listed.setIfInBounds j true).getD k true = false →
          (∀ e ∈ ok.after, Region.binds md e = true → e.on ≠ i) → oi.apart ops ok = true := fun k ok hk hki hun hno => by
        refine hfree k ok hk hki ?_ hno
        by_cases hjk : j = k
        · subst hjk; exact hjun
        · rw [getD_set_ne true hjk] at hun; exact hun
      refine wpOp_mono (fun a' w' h3 => ?_) h2
      have hS' : (listed.setIfInBounds j true).getD k true = false → S w' := fun h => h3.2.1 (by
        rw [Array.setIfInBounds_comm _ _ (Ne.symm hji), getD_set_ne true hik]
        exact h)
      refine ⟨hS', ih (listed.setIfInBounds j true) a' w' hfree' (ready_mono hr (Ne.symm hji)) h3.1 hik hS' ?_⟩
      rw [Array.setIfInBounds_comm _ _ hji]
      exact h3.2.2
theorem wpAnyG_take {i : Nat} {oi ok : Oper} {v : Value} {fuel : Nat} {listed : Array Bool} {a : Act} {w : World} (hi : ops[i]? = some oi) (hk : ops[k]? = some ok)
    (hw : (ok.after.any fun e => Region.binds md e && e.on == i) = true) (hs : Region.noSelect ops = true) (hf : Region.free md ops listed i = true) (hr : (Region.ready md ops listed).contains i = true) (hik : i ≠ k) (hlk : listed.getD k true = false)
    (hQ : ∀ c a w, Q (.panic c) (a.put oi.dst v) w → Q (.panic c) a w) (hy : YieldsIf P ops S oi v a) (hS : S w)
    (h : wpAnyG P md ops Q S k fuel (listed.setIfInBounds i true) (a.put oi.dst v) w) : wpAnyG P md ops Q S k (fuel + 1) listed a w :=
  wpAnyG_first hi (Region.noSelect_spec hs) hQ hk (by
    obtain ⟨n, hn, he⟩ := Array.any_eq_true.1 hw
    simp only [Bool.and_eq_true, beq_iff_eq] at he
    exact ⟨_, Array.getElem_mem hn, he⟩) fuel listed a w (Region.free_spec hi hf) (by simpa using hr) hy hS hik hlk h
theorem wpAnyG_takeP {i : Nat} {oi : Oper} {v : Value} {fuel : Nat} {listed : Array Bool} {a : Act} {w : World} (hi : ops[i]? = some oi)
    (hs : Region.noSelect ops = true) (hf : Region.free md ops listed i = true) (hr : (Region.ready md ops listed).contains i = true) (hik : i ≠ k)
    (hQ : ∀ c a w, Q (.panic c) (a.put oi.dst v) w → Q (.panic c) a w) (hy : YieldsIf P ops (fun _ => True) oi v a) (hS : listed.getD k true = false → S w)
    (h : wpAnyG P md ops Q S k fuel (listed.setIfInBounds i true) (a.put oi.dst v) w) : wpAnyG P md ops Q S k (fuel + 1) listed a w :=
  wpAnyG_pure hi (Region.noSelect_spec hs) hQ fuel listed a w (Region.free_spec hi hf) (by simpa using hr) hy hik hS h
/-- Whichever comes up. -/
theorem wpAnyG_all {rs : List Nat} {fuel : Nat} {listed : Array Bool} {a : Act} {w : World} (hr : Region.ready md ops listed = rs) (hne : rs ≠ [])
    (h : ∀ i ∈ rs, wpOp P ops Q i (fun a' w' => ((listed.setIfInBounds i true).getD k true = false → S w') ∧ wpAnyG P md ops Q S k fuel (listed.setIfInBounds i true) a' w') a w) : wpAnyG P md ops Q S k (fuel + 1) listed a w :=
  ⟨fun h0 => absurd (hr ▸ h0) hne, hr ▸ h⟩
theorem wpAnyG_one {i : Nat} {fuel : Nat} {listed : Array Bool} {a : Act} {w : World} (hr : Region.ready md ops listed = [i])
    (h : wpOp P ops Q i (fun a' w' => ((listed.setIfInBounds i true).getD k true = false → S w') ∧ wpAnyG P md ops Q S k fuel (listed.setIfInBounds i true) a' w') a w) : wpAnyG P md ops Q S k (fuel + 1) listed a w :=
  wpAnyG_all hr (by simp) (fun j hj => by rw [List.mem_singleton.1 hj]; exact h)
theorem wpAnyG_two {i j : Nat} {fuel : Nat} {listed : Array Bool} {a : Act} {w : World} (hr : Region.ready md ops listed = [i, j])
    (h : wpOp P ops Q i (fun a' w' => ((listed.setIfInBounds i true).getD k true = false → S w') ∧ wpAnyG P md ops Q S k fuel (listed.setIfInBounds i true) a' w') a w)
    (h2 : wpOp P ops Q j (fun a' w' => ((listed.setIfInBounds j true).getD k true = false → S w') ∧ wpAnyG P md ops Q S k fuel (listed.setIfInBounds j true) a' w') a w) : wpAnyG P md ops Q S k (fuel + 1) listed a w :=
  wpAnyG_all hr (by simp) (fun m hm => by
    rcases List.mem_cons.1 hm with rfl | hm
    · exact h
    · rw [List.mem_singleton.1 hm]; exact h2)
theorem wpAnyG_done {listed : Array Bool} {a : Act} {w : World} (hr : Region.ready md ops listed = []) (h : Q .normal a w) : ∀ fuel, wpAnyG P md ops Q S k fuel listed a w
  | 0 => ⟨hr, h⟩
  | _ + 1 => ⟨fun _ => h, by rw [hr]; simp⟩
theorem wp_region_G {id : Nat} {a : Act} {w : World} (S : World → Prop) (k n : Nat) (hm : P.follows .mixedOrders = true) (hn : ops.size = n)
    (h : wpAnyG P .any ops Q S k n (Array.replicate n false) a w.drew) : (Code.region id ops true).wp P Q a w := by
  subst hn
  exact wp_region_any hm (wpAny_of_G _ _ _ _ h)
end Go.Proofs.YtkplkienbgoofaaDoor

namespace Go.Proofs.YtkplkienbgoofaaDoor
open Go.RowKit Go.Maps Go.WideMaps Go.WideAt
open Go.Proofs.YtkplkienbgoofaaDoorW.PrintWords (Kd ReadsRow)
/-- Bytes in a block of their own. -/
def DataB (w : World) (base : Nat) (A : Option Addr) (d : List Int) : Prop := ∃ b cur fr, A = some ⟨b, 0, none⟩ ∧ base ≤ b ∧ w.heap[b]? = some (Obj.cells cur 5 fr) ∧ ∀ (j : Nat) (u : Value), (u8V d)[j]? = some u → cur[j]? = some u
theorem DataB.row {w : World} {base : Nat} {A : Option Addr} {d : List Int} (h : DataB w base A d) : ByteRow w A d ∧ (A = none → d.length = 0) := by
  obtain ⟨b, cur, fr, rfl, _, hb, hc⟩ := h
  refine ⟨fun ad e j u hj => ?_, fun e => by cases e⟩
  injection e with e
  subst e
  rw [Addr.add_lit]
  have := hc j u hj
  simp [World.cell?, hb, this]
theorem DataB.fr {S : Nat → Prop} {w w' : World} {base : Nat} {A : Option Addr} {d : List Int} (h : DataB w base A d) (hf : FrB S w w') {ts : List TypeId} (hT : OfTypes w S ts) (h1 : 5 ∉ ts) : DataB w' base A d := by
  obtain ⟨b, cur, fr, e, hbb, hb, hc⟩ := h
  exact ⟨b, cur, fr, e, hbb, hf.at_ hb (hT.cells hb h1), hc⟩
theorem dataB_new (w : World) (s : ByteArray) (cap : Nat) : DataB (w.drew.alloc (.cells (bytesRow s cap) 5 ((bytesRow s cap).size, (bytesRow s cap).size + 1))) w.heap.size (some ⟨w.heap.size, 0, none⟩) (byteL s) := by
  refine ⟨_, _, _, rfl, Nat.le_refl _, heap_alloc_new w.drew _, fun j u hj => ?_⟩
  have hl : j < s.data.size := by
    have := (List.getElem?_eq_some_iff.1 hj).1
    simpa [u8V, byteL] using this
  rw [bytesRow_at s cap j hl, ← hj]
  simp only [u8V, byteL, List.map_map, List.getElem?_map, Array.getElem?_toList]
  rw [Array.getElem?_eq_getElem hl]
  rfl
theorem DataB.mono {w : World} {base base' : Nat} {A : Option Addr} {d : List Int} (h : DataB w base A d) (hb : base' ≤ base) : DataB w base' A d := by
  obtain ⟨b, cur, fr, e, hbb, r⟩ := h
  exact ⟨b, cur, fr, e, Nat.le_trans hb hbb, r⟩
theorem infoChg : (Tryd.prog.info? 42).map (fun i => (i.zero, i.size, i.bytes)) = some (some (.agg #[.string ⟨#[]⟩, .slice none 0 0, .bool false]), 3, 48) := by kernel_rfl
/-- One of the files that were had. -/
structure CRow where
  chg : ChgD
  fa : Option Addr
  fc : Nat
def CRow.cells (r : CRow) : List Value := [.string r.chg.1, .slice r.fa r.chg.2.1.length r.fc, .bool r.chg.2.2]
theorem CRow.cells_len (r : CRow) : r.cells.length = 3 := rfl
def flatC (q : List CRow) : List Value := q.flatMap CRow.cells
theorem flatC_snoc (q : List CRow) (r : CRow) : flatC (q ++ [r]) = flatC q ++ r.cells := by simp [flatC]
theorem flatC_len (q : List CRow) : (flatC q).length = q.length * 3 := flatG_length CRow.cells_len q
structure GoodF (w : World) (base : Nat) (r : CRow) : Prop where
  data : DataB w base r.fa r.chg.2.1
  le : r.chg.2.1.length ≤ r.fc
theorem GoodF.fr {S : Nat → Prop} {w w' : World} {base : Nat} {r : CRow} (h : GoodF w base r) (hf : FrB S w w') {ts : List TypeId} (hT : OfTypes w S ts) (h1 : 5 ∉ ts) : GoodF w' base r := ⟨h.data.fr hf hT h1, h.le⟩
/-- Files that were had: a row of the call's own. -/
structure FilesC (w : World) (base : Nat) (v : Value) (q : List CRow) : Prop where
  own : w.ownsRow base 42 3 v q.length (flatC q)
  good : ∀ r ∈ q, GoodF w base r
theorem FilesC.fr {S : Nat → Prop} {w w' : World} {base : Nat} {v : Value} {q : List CRow} (h : FilesC w base v q) (hf : FrB S w w') {ts : List TypeId} (hT : OfTypes w S ts) (h1 : 5 ∉ ts) (h2 : 42 ∉ ts) : FilesC w' base v q :=
  ⟨hf.own h.own (hT.row h.own h2), fun r hr => (h.good r hr).fr hf hT h1⟩
theorem FilesC.slice {w : World} {base : Nat} {v : Value} {q : List CRow} (h : FilesC w base v q) : ∃ A c, v = .slice A (q.map CRow.chg).length c ∧ (q.map CRow.chg).length ≤ c ∧ ChgRow w A (q.map CRow.chg) := by
  rw [List.length_map]
  rcases h.own.2 with ⟨rfl, h0⟩ | ⟨b, cap, cur, rfl, _, _, hcap, _⟩
  · exact ⟨none, 0, by rw [h0], by omega, fun k hk => by simp at hk; omega⟩
  · refine ⟨_, cap, rfl, hcap, fun k hk => ?_⟩
    have hk : k < q.length := by simpa using hk
    have e : ∀ j, j < 3 → w.cell? ⟨b, k * 3 + j, none⟩ = (q[k].cells)[j]? := fun j hj => by
      rw [h.own.cellAt (k * 3 + j) (by omega), flatC, flatG_get CRow.cells_len q k hk j hj]
    obtain ⟨hr, hn⟩ := (h.good _ (List.getElem_mem hk)).data.row
    refine ⟨b, 0, q[k].fa, q[k].fc, rfl, ?_⟩
    simp only [List.getElem_map, Nat.zero_add]
    exact ⟨e 0 (by omega), e 1 (by omega), e 2 (by omega), (h.good _ (List.getElem_mem hk)).le, hr, hn⟩
theorem FilesC.mono {w : World} {base base' : Nat} {v : Value} {q : List CRow} (h : FilesC w base v q) (hb : base' ≤ base) : FilesC w base' v q := ⟨own_mono h.own hb, fun r hr => ⟨(h.good r hr).data.mono hb, (h.good r hr).le⟩⟩
/-- The events that were added: each with its files. -/
structure ReadRow where
  ev : ERow
  fs : List CRow
structure GoodRR (w : World) (base : Nat) (r : ReadRow) : Prop where
  files : FilesC w base (.slice r.ev.fa r.ev.ev.2.2.2.2.2.length r.ev.fc) r.fs
  eq : r.ev.ev.2.2.2.2.2 = r.fs.map CRow.chg
theorem GoodRR.fr {S : Nat → Prop} {w w' : World} {base : Nat} {r : ReadRow} (h : GoodRR w base r) (hf : FrB S w w') {ts : List TypeId} (hT : OfTypes w S ts) (h1 : 5 ∉ ts) (h2 : 42 ∉ ts) : GoodRR w' base r := ⟨h.files.fr hf hT h1 h2, h.eq⟩
theorem GoodRR.good {w : World} {base : Nat} {r : ReadRow} (h : GoodRR w base r) : GoodE w r.ev := by
  obtain ⟨A, c, e, hc, hr⟩ := h.files.slice
  rw [← h.eq] at e hc hr
  injection e with e1 e2 e3
  refine ⟨by omega, ?_⟩
  rw [e1]
  exact hr
/-- Pairs of numbers in memory. -/
def PairRow (w : World) (A : Option Addr) (l : List (Int × Int)) : Prop := ∀ k (h : k < l.length), ∃ b off, A = some ⟨b, off, none⟩ ∧ w.cell? ⟨b, off + k * 2, none⟩ = some (.int .i64 l[k].1) ∧ w.cell? ⟨b, off + k * 2 + 1, none⟩ = some (.int .i64 l[k].2)
theorem PairRow.below {w w' : World} {A : Option Addr} {l : List (Int × Int)} (h : PairRow w A l) (hb : Below w.heap.size w w') : PairRow w' A l := fun k hk => by
  obtain ⟨b, off, h0, h1, h2⟩ := h k hk
  exact ⟨b, off, h0, cell_below hb h1, cell_below hb h2⟩
def kPr : Kd (Int × Int) := Kd.pair (Kd.int .i64) (Kd.int .i64)
theorem pairRow_of {w : World} {A : Option Addr} {l : List (Int × Int)} (h : Kd.C kPr w A l.length l) : PairRow w A l := by
  have hall : ∀ k (hk : k < l.length), ∃ ad, A = some ad ∧ ∀ i u, ([.int .i64 l[k].1, .int .i64 l[k].2] : List Value)[i]? = some u → w.cell? (ad.add (k * 2 + i)) = some u := by
    intro k hk
    obtain ⟨ad, e, hc⟩ := h.2.2 (by omega)
    obtain ⟨c, _, ⟨c0, c1, rfl, h0, h1⟩, hcell⟩ := hc k _ (List.getElem?_eq_getElem hk)
    obtain rfl : c0 = [.int .i64 l[k].1] := h0
    obtain rfl : c1 = [.int .i64 l[k].2] := h1
    exact ⟨ad, e, hcell⟩
  intro k hk
  obtain ⟨ad0, e0, hcell0⟩ := hall 0 (by omega)
  obtain ⟨ad, e, hcell⟩ := hall k hk
  obtain ⟨b, off, spot⟩ := ad
  have hs : spot = none := by
    have h1 := hcell0 0 _ rfl
    have e1 : ad0 = ⟨b, off, spot⟩ := Option.some.inj (e0.symm.trans e)
    rw [e1] at h1
    have := World.cell?_spot h1
    simpa [Addr.add] using this
  subst hs
  have g0 := hcell 0 _ rfl
  have g1 := hcell 1 _ rfl
  rw [Addr.add_lit] at g0 g1
  exact ⟨b, off, e, g0, by rw [Nat.add_assoc]; exact g1⟩
theorem FrB.maps {S : Nat → Prop} {w w' : World} (h : FrB S w w') {ts : List TypeId} (hT : OfTypes w S ts) (h1 : 38 ∉ ts) {base : Nat} {v : Value} {Ms : List FM} {bs : List Nat} (hm : MapsAt w base v Ms bs) : MapsAt w' base v Ms bs :=
  ⟨hm.len, h.off hm.own (hT.offRow hm.own h1), fun j h1 h2 => (hm.maps j h1 h2).elim fun m ⟨x, y⟩ => by
    obtain ⟨es, ck, hb⟩ := x.isMap
    exact ⟨m, h.mapAs x (hT.map hb), y⟩⟩
/-- The files that were had so far. -/
structure HadAt (X wr : World) (eb : Nat) (ver : Int) (fv : Value) (q : List CRow) : Prop where
  fr : FrB (fun k => k = eb) X wr
  lt : eb < X.heap.size
  cell : wr.heap[eb]? = some (Obj.cells #[.bool false, .int .i64 0, .int .i64 ver, .string ⟨#[114]⟩, .string ⟨#[]⟩, fv] 28 (0, 0))
  files : FilesC wr X.heap.size fv q
theorem HadAt.below {X wr w' : World} {eb : Nat} {ver : Int} {fv : Value} {q : List CRow} (h : HadAt X wr eb ver fv q) (hb : Below wr.heap.size wr w') : HadAt X w' eb ver fv q :=
  ⟨h.fr.trans (FrB.of_below (S := fun _ => False) hb) (fun k _ hk => hk.elim), h.lt, (hb.block eb (lt_of_block h.cell)).trans h.cell, h.files.fr (FrB.of_below (S := fun _ => False) hb) (ts := []) (fun k hk => hk.elim) (by simp) (by simp)⟩
theorem HadAt.evcell {X wr : World} {eb : Nat} {ver : Int} {fv : Value} {q : List CRow} (h : HadAt X wr eb ver fv q) : wr.cell? ⟨eb, 5, none⟩ = some fv ∧ wr.frozen? ⟨eb, 5, none⟩ = false := ⟨by simp [World.cell?, h.cell], frozen_of_row _ eb 5 _ _ h.cell⟩
/-- One file more. -/
theorem HadAt.app {X w4 w5 : World} {eb : Nat} {ver : Int} {fv fv' : Value} {q : List CRow} {r : CRow} (h : HadAt X w4 eb ver fv q) (hg : GoodF w4 X.heap.size r) (ho : w5.ownsRow X.heap.size 42 3 fv' (q.length + 1) (flatC q ++ r.cells)) (hgr : w4.grownBy w5 fv.ownBlock) :
    HadAt X (w5.setCell ⟨eb, 5, none⟩ fv') eb ver fv' (q ++ [r]) ∧ w5.heap[eb]? = some (Obj.cells #[.bool false, .int .i64 0, .int .i64 ver, .string ⟨#[114]⟩, .string ⟨#[]⟩, fv] 28 (0, 0)) ∧ FrB (fun k => k = eb) X w5 := by
  have hT : OfTypes w4 (fun k => fv.ownBlock = some k) [42] := fun k hk hlt => by
    rcases h.files.own.2 with ⟨e, _⟩ | ⟨g, cap, cur, e, _, hh, _⟩
    · rw [e] at hk; simp [Value.ownBlock] at hk
    · rw [e] at hk
      have : g = k := by simpa [Value.ownBlock] using hk
      subst this
      exact ⟨_, _, _, hh, by simp⟩
  have hf : FrB (fun k => fv.ownBlock = some k) w4 w5 := FrB.of_grown hgr (fun b hb _ => hb)
  have hc5 := hf.at_ h.cell (hT.cells h.cell (by decide))
  have hs : FrB (fun k => k = eb) w5 (w5.setCell ⟨eb, 5, none⟩ fv') := FrB.set fv' rfl
  have hTe : OfTypes w5 (fun k => k = eb) [28] := fun k hk _ => by
    subst hk
    exact ⟨_, _, _, hc5, by simp⟩
  have hF5 : FilesC w5 X.heap.size fv' (q ++ [r]) := by
    refine ⟨by rw [List.length_append, List.length_singleton, flatC_snoc]; exact ho, fun x hx => ?_⟩
    rcases List.mem_append.1 hx with hx | hx
    · exact (h.files.good x hx).fr hf hT (by decide)
    · rw [List.mem_singleton.1 hx]; exact hg.fr hf hT (by decide)
  have h1 : FrB (fun k => k = eb) X w5 := h.fr.trans hf (fun k hk hb => by
    have := (h.files.own.lt k hb).1
    omega)
  refine ⟨⟨?_, h.lt, ?_, hF5.fr hs hTe (by decide) (by decide)⟩, hc5, h1⟩
  · exact h1.trans hs (fun k _ hk => hk)
  · rw [heap_setCell_same w5 eb 5 _ _ _ hc5]; rfl
/-- The events behind some reads. -/
structure RdAt (w3 : World) (ov0 : Value) (q : List ERow) (Ms : List FM) (b1 : Nat) (wr : World) (ov : Value) (R : List ReadRow) : Prop where
  own : wr.ownsRow b1 28 6 ov (q.length + R.length) (flatE (q ++ R.map ReadRow.ev))
  fr : FrB (fun b => ov0.ownBlock = some b) w3 wr
  loc : ∀ b, ov.ownBlock = some b → ov0.ownBlock = some b ∨ w3.heap.size ≤ b
  good : ∀ r ∈ R, GoodRR wr w3.heap.size r ∧ ReadEv Ms r.ev.ev ∧ EvGood r.ev.ev
theorem RdAt.below {w3 wr w' : World} {ov0 ov : Value} {q : List ERow} {Ms : List FM} {b1 : Nat} {R : List ReadRow} (h : RdAt w3 ov0 q Ms b1 wr ov R) (hb : Below wr.heap.size wr w') : RdAt w3 ov0 q Ms b1 w' ov R :=
  ⟨own_stay h.own hb, h.fr.trans (FrB.of_below (S := fun _ => False) hb) (fun _ _ hk => hk.elim), h.loc, fun r hr => ⟨(h.good r hr).1.fr (FrB.of_below (S := fun _ => False) hb) (ts := []) (fun k hk => hk.elim) (by simp) (by simp), (h.good r hr).2⟩⟩
/-- One event more. -/
theorem RdAt.app {w3 W w5 : World} {ov0 ov ov' : Value} {q : List ERow} {Ms : List FM} {b1 : Nat} {R : List ReadRow} {r : ReadRow} (h : RdAt w3 ov0 q Ms b1 W ov R) (hg : GoodRR W w3.heap.size r) (hr : ReadEv Ms r.ev.ev) (he : EvGood r.ev.ev)
    (ho : w5.ownsRow b1 28 6 ov' (q.length + R.length + 1) (flatE (q ++ R.map ReadRow.ev) ++ r.ev.cells)) (hgr : W.grownBy w5 ov.ownBlock) (hl : ov'.ownBlock = ov.ownBlock ∨ ov'.ownBlock = some W.heap.size) : RdAt w3 ov0 q Ms b1 w5 ov' (R ++ [r]) ∧ GoodRR w5 w3.heap.size r := by
  have hT : OfTypes W (fun k => ov.ownBlock = some k) [28] := fun k hk hlt => by
    rcases h.own.2 with ⟨e, _⟩ | ⟨g, cap, cur, e, _, hh, _⟩
    · rw [e] at hk; simp [Value.ownBlock] at hk
    · rw [e] at hk
      have : g = k := by simpa [Value.ownBlock] using hk
      subst this
      exact ⟨_, _, _, hh, by simp⟩
  have hf : FrB (fun k => ov.ownBlock = some k) W w5 := FrB.of_grown hgr (fun b hb _ => hb)
  have hg5 := hg.fr hf hT (by decide) (by decide)
  refine ⟨⟨?_, h.fr.trans hf (fun k hk hb => ?_), fun b hb => ?_, fun x hx => ?_⟩, hg5⟩
  · have e1 : flatE (q ++ (R ++ [r]).map ReadRow.ev) = flatE (q ++ R.map ReadRow.ev) ++ r.ev.cells := by
      rw [List.map_append, ← List.append_assoc, flatE_append]
      simp [flatE]
    rw [e1, List.length_append, List.length_singleton, ← Nat.add_assoc]
    exact ho
  · rcases h.loc k hb with e | e
    · exact e
    · omega
  · rcases hl with e | e
    · exact h.loc b (by rw [← e]; exact hb)
    · rw [e] at hb
      injection hb with hb
      have := h.fr.size
      exact .inr (by omega)
  · rcases List.mem_append.1 hx with hx | hx
    · exact ⟨(h.good x hx).1.fr hf hT (by decide) (by decide), (h.good x hx).2⟩
    · rw [List.mem_singleton.1 hx]; exact ⟨hg5, hr, he⟩
end Go.Proofs.YtkplkienbgoofaaDoor

namespace Go.Proofs.YtkplkienbgoofaaDoor
open Go.RowKit Go.Maps Go.WideMaps Go.WideAt
open Go.Proofs.YtkplkienbgoofaaDoorW.PrintWords (Kd ReadsRow)
theorem infoEv : (Tryd.prog.info? 28).map (fun i => (i.zero, i.size, i.bytes)) = some (some (.agg #[.bool false, .int .i64 0, .int .i64 0, .string ⟨#[]⟩, .string ⟨#[]⟩, .slice none 0 0]), 6, 80) := by kernel_rfl
theorem src_row (w : World) (l : List Value) (t : TypeId) : ∀ (j : Nat) u, l[j]? = some u → (w.alloc (.cells l.toArray t)).cell? ((⟨w.heap.size, 0, none⟩ : Addr).add j) = some u := fun j u h => by
  rw [Addr.add_lit, World.cell?_alloc_at _ _ _ _ rfl]
  simpa using h
theorem pushE_mem : ∀ {n : Nat} {ls : List (List ChgD)} {o : EvD}, o ∈ pushE n ls → o.2.2.2.2.2 ∈ ls ∧ o.2.2.2.1 = ⟨#[]⟩ ∧ o.2.2.2.2.1 = ⟨#[]⟩
  | _, [], o, h => by cases h
  | n, c :: t, o, h => by
    rcases List.mem_cons.1 h with rfl | h
    · exact ⟨List.mem_cons_self, rfl, rfl⟩
    · obtain ⟨h1, h2⟩ := pushE_mem h
      exact ⟨List.mem_cons_of_mem _ h1, h2⟩
theorem pushE_of_mem : ∀ {n : Nat} {ls : List (List ChgD)} {c : List ChgD}, c ∈ ls → ∃ v : Int, ((true, 0, v, ⟨#[]⟩, ⟨#[]⟩, c) : EvD) ∈ pushE n ls
  | _, [], c, h => by cases h
  | n, a :: t, c, h => by
    rcases List.mem_cons.1 h with rfl | h
    · exact ⟨_, List.mem_cons_self⟩
    · obtain ⟨v, hv⟩ := pushE_of_mem (n := n + 1) h
      exact ⟨v, List.mem_cons_of_mem _ hv⟩
set_option maxRecDepth 100000 in
set_option maxHeartbeats 8000000 in
theorem storyReads_walk (v : Value) (l : List (List ChgD)) (u : Value) (rs : List (Int × Int)) (w : World) (hv : SliceArg kLst w v l) (hg0 : ∀ o ∈ l, ∀ x ∈ o, ChgArg x) (hu : SliceArg kPr w u rs) (hg1 : ∀ x ∈ rs, (Lit.int .i64 x.1).wf = true ∧ (Lit.int .i64 x.2).wf = true) (hg : Env w) :
    Calls Tryd.prog 3 #[v, u] w fun e w' => e = .returned (.bool true) ∧ Below w.heap.size w w' := by
  obtain ⟨A, c, rfl, hlc, hcm, hC⟩ := hv
  obtain ⟨Ap, cp, rfl, hlp, hcp, hP⟩ := hu
  have hmx : (maxLen : Nat) = 9223372036854775807 := rfl
  obtain ⟨hr, hll⟩ := listRow_of hC
  have HK := Lib.hid (tells_any w hg)
  have HR := Lib.hid hr
  have HLL := Lib.hid hll
  have HGA := Lib.hid hg0
  have HPR := Lib.hid (pairRow_of hP)
  have HWF := Lib.hid hg1
  have hlm : l.length ≤ 9223372036854775807 := by omega
  have hrm : rs.length ≤ 9223372036854775807 := by omega
  clear hg hC hP hr hll hg0 hg1
  by_cases hl : l.length ≤ 8
  · have hl2 : decide ((8 : Int) < (l.length : Int)) = false := by simp; omega
    by_cases hl8 : rs.length ≤ 8
    · have hl3 : decide ((8 : Int) < (rs.length : Int)) = false := by simp; omega
      obtain ⟨j0, hj0, hjz0, hjz1, hjz2⟩ := info_parts infoEv
      go_enter Tryd.func3, Tryd.ntmps3
      go_wp2_with fail
      refine HK.out.mono ?_
      rintro e w1 ⟨rfl, hb1⟩
      have HB1 := Lib.hid hb1
      have hs1 := hb1.size
      clear hb1
      go_wp2_with fail
      go_loopw [5, 28] (fun ov i wr => ∃ (k : Nat) (q : List ERow), k ≤ l.length ∧ i = .int .i64 k ∧ q.map ERow.ev = pushE 0 (l.take k) ∧ q.length = k ∧ wr.ownsRow w1.heap.size 28 6 ov q.length (flatE q) ∧ (∀ r ∈ q, GoodE w r) ∧ w1.heap.size ≤ wr.heap.size ∧ Below w.heap.size w wr) (fun _ i _ => l.length - (intOf i).toNat)
      case atStart => exact ⟨0, [], by omega, rfl, rfl, rfl, ⟨rfl, .inl ⟨rfl, rfl⟩⟩, (fun r h => by cases h), Nat.le_refl _, HB1.out⟩
      case round =>
        obtain ⟨k, q, hk, rfl, hq, hql, hown, hgd, hszk, hb⟩ := hrel
        obtain ⟨wk, rfl⟩ : ∃ W, W = wr := ⟨wr, rfl⟩
        have HQ := Lib.hid hq
        have HQL := Lib.hid hql
        have HOWN := Lib.hid hown
        have HGD := Lib.hid hgd
        have HB := Lib.hid hb
        clear hq hown hgd hb
        by_cases hlt : k < l.length
        · obtain ⟨b0, off0, A', c', rfl, x1, x2, x3⟩ := (HR.out.below HB.out) k hlt
          have hcc := (HLL.out l[k] (List.getElem_mem hlt)).1
          have hgr : GoodE w ⟨(true, 0, (k : Int) + 1, ⟨#[]⟩, ⟨#[]⟩, l[k]), A', c'⟩ := by
            obtain ⟨b1, off1, A1, c1, e, y1, y2, y3⟩ := HR.out k hlt
            injection e with e
            injection e with e1 e2
            subst e1 e2
            have y := cell_below HB.out y1
            rw [x1] at y
            injection y with y
            injection y with y4 y5 y6
            subst y4 y6
            exact ⟨y2, y3⟩
          have hsn : pushE 0 (l.take (k + 1)) = pushE 0 (l.take k) ++ [(true, 0, (k : Int) + 1, ⟨#[]⟩, ⟨#[]⟩, l[k])] := by
            rw [List.take_succ_eq_append_getElem hlt, pushE_snoc]
            have e : ((0 + (l.take k).length + 1 : Nat) : Int) = (k : Int) + 1 := by
              rw [List.length_take]
              omega
            rw [e]
          obtain ⟨cs, hcs⟩ : ∃ cs, cs = l[k] := ⟨_, rfl⟩
          rw [← hcs] at x1 hcc hgr hsn
          have HGR := Lib.hid hgr
          have HSN := Lib.hid hsn
          clear hgr hsn hcs x2 x3
          have hk12 : k ≤ 12 := by omega
          have hown0 : Hid ((wk.alloc (.cells #[.bool true, .int .i64 0, .int .i64 ((k : Int) + 1), .string ⟨#[]⟩, .string ⟨#[]⟩, .slice A' cs.length c'] 28)).ownsRow w1.heap.size 28 6 u5 q.length (flatE q)) := Lib.hid (own_stay HOWN.out (below_one _ _))
          have hsrc : Hid (∀ (j : Nat) u, ([.bool true, .int .i64 0, .int .i64 ((k : Int) + 1), .string ⟨#[]⟩, .string ⟨#[]⟩, .slice A' cs.length c'] : List Value)[j]? = some u → (wk.alloc (.cells #[.bool true, .int .i64 0, .int .i64 ((k : Int) + 1), .string ⟨#[]⟩, .string ⟨#[]⟩, .slice A' cs.length c'] 28)).cell? ((⟨wk.heap.size, 0, none⟩ : Addr).add j) = some u) := Lib.hid (src_row wk _ _)
          go_wp2_with (at_builtin; go_loud (refine wpList_append_own _ rfl (.tmp 33) (.tmp 38) 25 rfl w1.heap.size 28 j0 (.agg #[.bool false, .int .i64 0, .int .i64 0, .string ⟨#[]⟩, .string ⟨#[]⟩, .slice none 0 0]) 6 80 Tryd.underlying25 hj0 hjz0 hjz1 hjz2 rfl (by decide) u5 q.length (flatE q) (by simp [Act.eval, Act.put]) hown0.out ⟨wk.heap.size, 0, none⟩ 1 1 [.bool true, .int .i64 0, .int .i64 ((k : Int) + 1), .string ⟨#[]⟩, .string ⟨#[]⟩, .slice A' cs.length c'] (by simp [Act.eval, Act.put]) rfl hsrc.out (by simp [Value.oneCell']) (by unfold maxLen; omega) (by omega) (by simp; omega) ?_); intro v2 w2 hown2 hg2 _)
          have hown3 : w2.ownsRow w1.heap.size 28 6 v2 (q ++ [(⟨(true, 0, (k : Int) + 1, ⟨#[]⟩, ⟨#[]⟩, cs), A', c'⟩ : ERow)]).length (flatE (q ++ [(⟨(true, 0, (k : Int) + 1, ⟨#[]⟩, ⟨#[]⟩, cs), A', c'⟩ : ERow)])) := by
            rw [List.length_append, List.length_singleton, flatE_append]
            exact hown2
          have hB2 : Below w.heap.size w w2 := (below_from HB.out (below_one wk (.cells #[.bool true, .int .i64 0, .int .i64 ((k : Int) + 1), .string ⟨#[]⟩, .string ⟨#[]⟩, .slice A' cs.length c'] 28))).grown hg2 (Nat.le_trans hs1 (Nat.le_trans hszk (by simp))) (fun j hj => Nat.le_trans hs1 (HOWN.out.lt j hj).1)
          have hz2 : w1.heap.size ≤ w2.heap.size := Nat.le_trans hszk (Nat.le_trans (by simp) hg2.size)
          have HO3 := Lib.hid hown3
          have HB2 := Lib.hid hB2
          clear hown2 hown3 hg2 hB2
          go_roundw
          case rel => exact ⟨k + 1, q ++ [(⟨(true, 0, (k : Int) + 1, ⟨#[]⟩, ⟨#[]⟩, cs), A', c'⟩ : ERow)], by omega, by go_num, by rw [List.map_append, HQ.out, HSN.out]; rfl, by simp [hql], HO3.out, (fun r hr => by
            rcases List.mem_append.1 hr with hr | hr
            · exact HGD.out r hr
            · rw [List.mem_singleton.1 hr]; exact HGR.out), hz2, HB2.out⟩
          case measure => simp [intOf]; omega
        · obtain rfl : k = l.length := by omega
          obtain ⟨A3, c3, rfl, hc3, hev⟩ := evRow_own HOWN.out (fun r hr => (HGD.out r hr).below HB.out)
          rw [HQ.out, List.take_length] at hc3 hev ⊢
          have hpl := pushE_length 0 l
          have hmem := fun (o : EvD) (ho : o ∈ pushE 0 l) => pushE_mem ho
          have HF := Lib.hid (fits_evs A3 c3 (pushE 0 l) wk hev (by omega) (fun o ho => by
            obtain ⟨h1, h2, h3⟩ := hmem o ho
            have h4 := HLL.out _ h1
            have h5 := HGA.out _ h1
            exact ⟨h4.1, by rw [h2]; decide, by rw [h3]; decide, fun x hx => ⟨by have := (h5 x hx).1; unfold maxLen at this; omega, h4.2 x hx⟩⟩))
          have HEV := Lib.hid hev
          rw [hpl]
          clear hev hmem
          go_wp2_with fail
          rw [← hpl]
          refine HF.out.mono ?_
          rintro e w2 ⟨rfl, hb2⟩
          have HB2 := Lib.hid (below_from HB.out hb2)
          cases hfit : fitL (pushE 0 l) with
          | false =>
            go_wp2_with fail
            go_ret
            exact ⟨rfl, HB2.out⟩
          | true =>
            obtain ⟨hf1, hf2, hf3⟩ := fitL_out hfit
            have HRP := Lib.hid (replay_any A3 c3 (pushE 0 l) w2 (by omega) (HEV.out.below hb2) hf2)
            have hfa := fitL_all hfit
            have hl20 : ∀ c ∈ l, c.length ≤ 20 ∧ ∀ x ∈ c, fitC3 x = true := fun c hc => by
              obtain ⟨v, hv⟩ := pushE_of_mem (n := 0) hc
              exact hfa _ hv
            have HL20 := Lib.hid hl20
            have HQ2 : Hid (q.map ERow.ev = pushE 0 l) := Lib.hid (by rw [HQ.out, List.take_length])
            have HOWN2 := Lib.hid (own_stay HOWN.out hb2)
            have HGQ : Hid (∀ r ∈ q, GoodE w r) := Lib.hid HGD.out
            have hqml : (q.map ERow.ev).length = l.length := by rw [HQ2.out, hpl]
            have HF2 := Lib.hid hf2
            have hz12 : w1.heap.size ≤ w2.heap.size := Nat.le_trans hszk hb2.size
            clear hfit hb2 hf1 hf2 hf3 hfa hl20
            rw [hpl] at HRP ⊢
            rw [hqml] at HOWN2
            go_wp2_with fail
            refine HRP.out.mono ?_
            rintro e w3 (⟨Ms, bs, A4, c4, hre, rfl, hma, hb3⟩ | ⟨i, b, hre, _⟩)
            · have hre0 := hre
              rw [replay_pushes] at hre
              injection hre with hre
              have hMl : Ms.length = l.length + 1 := by rw [← hre]; simp [mapsM_length]
              have hget : ∀ k (h : k < Ms.length), Ms[k] = nowM l k := fun k h => by
                have h1 := mapsM_get l [] k (by omega)
                have h2 : ([] :: mapsM [] l : List FM) = Ms := hre
                rw [h2, List.getElem?_eq_getElem h] at h1
                exact Option.some.inj h1
              have hMlen : ∀ k (h : k < Ms.length), Ms[k].length ≤ 160 := fun k h => by
                rw [hget k h]
                have := nowM_len20 (fun c hc => (HL20.out c hc).1) k
                omega
              have hMok : ∀ k (h : k < Ms.length), ∀ x ∈ Ms[k], okF x := fun k h => by
                rw [hget k h]
                exact nowM_okF (fun c hc => (HL20.out c hc).2) k
              have hMonce : ∀ k (h : k < Ms.length), (Ms[k].map Prod.fst).Nodup := fun k h => by
                have := hma.maps k (by rw [hma.len]; exact h) h
                exact this.elim fun m ⟨_, h⟩ => h.once
              have HRE := Lib.hid hre0
              have HMLEN := Lib.hid hMlen
              have HMOK := Lib.hid hMok
              have HMON := Lib.hid hMonce
              have HMA := Lib.hid hma
              have HB3 := Lib.hid (below_from HB2.out hb3)
              have HOWN3 := Lib.hid (own_stay HOWN2.out hb3)
              have hbl : bs.length = Ms.length := hma.len
              have hs3 : w.heap.size ≤ w3.heap.size := HB3.out.size
              have hs13 : w1.heap.size ≤ w3.heap.size := by
                have h2 := hb3.size
                omega
              have hql : q.length = l.length := by rw [← List.length_map (f := ERow.ev)]; exact hqml
              have hT3 : OfTypes w3 (fun b => (Value.slice A3 l.length c3).ownBlock = some b) [28] := fun k hk hlt => by
                rcases HOWN3.out.2 with ⟨e, _⟩ | ⟨g, cap, cur, e, _, hh, _⟩
                · rw [e] at hk; simp [Value.ownBlock] at hk
                · rw [e] at hk
                  have : g = k := by simpa [Value.ownBlock] using hk
                  subst this
                  exact ⟨_, _, _, hh, by simp⟩
              have hS3 : ∀ b, (Value.slice A3 l.length c3).ownBlock = some b → w.heap.size ≤ b := fun b hb => by
                have := (HOWN3.out.lt b hb).1
                omega
              have HT3 := Lib.hid hT3
              have HS3 := Lib.hid hS3
              have hR0 : RdAt w3 (.slice A3 l.length c3) q Ms w1.heap.size w3 (.slice A3 l.length c3) [] := ⟨by rw [List.map_nil, List.append_nil, hql]; have := HOWN3.out; rw [hql] at this; exact this, FrB.refl _ _, fun b hb => .inl hb, fun r hr => by cases hr⟩
              have HR0 := Lib.hid hR0
              have hMb : Ms.length ≤ 9 := by omega
              clear hre hre0 hget hMlen hMok hMonce hma hb3 hT3 hS3 hR0 hqml
              go_wp2_with fail
              go_loopw [5, 53] (fun ov i wr => ∃ (k : Nat) (R : List ReadRow), k ≤ rs.length ∧ i = .int .i64 k ∧ R.length ≤ 2 * k ∧ RdAt w3 (.slice A3 l.length c3) q Ms w1.heap.size wr ov R) (fun _ i _ => rs.length - (intOf i).toNat)
              case atStart => exact ⟨0, [], by omega, rfl, by simp, HR0.out⟩
              case round =>
                obtain ⟨k, R, hk, rfl, hRl, hrd⟩ := hrel
                obtain ⟨wk2, rfl⟩ : ∃ W, W = wr := ⟨wr, rfl⟩
                have HRD := Lib.hid hrd
                have hbw : Below w.heap.size w3 wk2 := hrd.fr.below hs3 HS3.out
                have HBW := Lib.hid (HB3.out.trans hbw)
                have hsk2 : w3.heap.size ≤ wk2.heap.size := hrd.fr.size
                clear hrd hbw
                by_cases hlt : k < rs.length
                · obtain ⟨bp, op, rfl, z0, z1⟩ := (HPR.out.below HBW.out) k hlt
                  have hwf := HWF.out rs[k] (List.getElem_mem hlt)
                  generalize rs[k] = pr at *
                  obtain ⟨v0, v1⟩ := pr
                  simp only at z0 z1 hwf
                  have hb0 := below_one wk2 (.cells #[.int .i64 v0, .int .i64 v1] 35)
                  by_cases h0 : v0 < 0
                  · have d0 : decide (v0 < 0) = true := decide_eq_true h0
                    have HR1 := Lib.hid (HRD.out.below hb0)
                    clear hb0
                    go_wp2_with fail
                    go_roundw
                    case rel => exact ⟨k + 1, R, by omega, by go_num, by omega, HR1.out⟩
                    case measure => simp [intOf]; omega
                  · have d0 : decide (v0 < 0) = false := decide_eq_false h0
                    obtain ⟨n, rfl⟩ : ∃ n : Nat, v0 = (n : Int) := ⟨v0.toNat, by omega⟩
                    by_cases h1 : n < Ms.length
                    · have d1 : decide ((Ms.length : Int) ≤ (n : Int)) = false := decide_eq_false (by omega)
                      have hma2 := HRD.out.fr.maps HT3.out (by decide) HMA.out
                      have hgrl0 := fun b hb => (hma2.own.lt b hb).2
                      obtain ⟨gr, orr, cr, hA, _, hcells⟩ := hma2.row (by omega)
                      have hA2 : A4 = some ⟨gr, orr, none⟩ := by injection hA
                      subst hA2
                      have hgrl : gr < wk2.heap.size := hgrl0 gr rfl
                      have hbn : n < bs.length := by omega
                      clear hgrl0
                      have hmk := hma2.maps n hbn h1
                      have xc := hcells n hbn
                      have hM160 := HMLEN.out n h1
                      have HOKF := Lib.hid (HMOK.out n h1)
                      have HONC := Lib.hid (HMON.out n h1)
                      obtain ⟨M, hM⟩ : ∃ M, M = Ms[n] := ⟨_, rfl⟩
                      obtain ⟨bm, hbm⟩ : ∃ bm, bm = bs[n] := ⟨_, rfl⟩
                      rw [← hM] at hmk hM160 HOKF HONC
                      rw [← hbm] at hmk xc
                      have HMEQ := Lib.hid hM
                      have hbml : bm < wk2.heap.size := hmk.lt
                      have hi0 : (0 : Int) ≤ (n : Int) := by omega
                      have hi1 : (n : Int) < (Ms.length : Int) := by omega
                      have hbe := below_one (wk2.alloc (.cells #[.int .i64 (n : Int), .int .i64 v1] 35)) (.cells #[.bool false, .int .i64 0, .int .i64 (n : Int), .string ⟨#[114]⟩, .string ⟨#[]⟩, .slice none 0 0] 28)
                      have hne := heap_alloc_new (wk2.alloc (.cells #[.int .i64 (n : Int), .int .i64 v1] 35)) (.cells #[.bool false, .int .i64 0, .int .i64 (n : Int), .string ⟨#[114]⟩, .string ⟨#[]⟩, .slice none 0 0] 28)
                      have hnr := heap_alloc_new wk2 (.cells #[.int .i64 (n : Int), .int .i64 v1] 35)
                      have hnr2 := (hbe.block _ (lt_of_block hnr)).trans hnr
                      have hbe2 := below_from hb0 hbe
                      have xc2 := cell_below hbe2 xc
                      have HMK2 := Lib.hid (hmk.below hbe2)
                      have HRD2 := Lib.hid (HRD.out.below hbe2)
                      have HBE2 := Lib.hid (below_from HBW.out hbe2)
                      have HNE := Lib.hid hne
                      have HNR := Lib.hid hnr2
                      have hszs : ((wk2.alloc (.cells #[.int .i64 (n : Int), .int .i64 v1] 35)).alloc (.cells #[.bool false, .int .i64 0, .int .i64 (n : Int), .string ⟨#[114]⟩, .string ⟨#[]⟩, .slice none 0 0] 28)).heap.size = wk2.heap.size + 2 := by simp
                      have hsz1 : (wk2.alloc (.cells #[.int .i64 (n : Int), .int .i64 v1] 35)).heap.size = wk2.heap.size + 1 := by simp
                      rw [hsz1] at HNE
                      have HBK2 := Lib.hid hbe2
                      clear hma2 hcells hA hmk xc hM hbm hb0 hbe hne hnr hnr2 hbe2 hsz1
                      go_wp2_with fail
                      generalize hW2 : (wk2.alloc (.cells #[.int .i64 (n : Int), .int .i64 v1] 35)).alloc (.cells #[.bool false, .int .i64 0, .int .i64 (n : Int), .string ⟨#[114]⟩, .string ⟨#[]⟩, .slice none 0 0] 28) = W2 at *
                      refine (paths_any bm M W2 (by omega) HMK2.out).mono ?_
                      rintro e X ⟨AK, cK, K, rfl, hcK, hpo, hoK, _, hbX⟩
                      have hKl : K.length ≤ 160 := by rw [hpo.len]; exact hM160
                      obtain ⟨eb, heb⟩ : ∃ eb, eb = wk2.heap.size + 1 := ⟨_, rfl⟩
                      have hebX : eb < X.heap.size := by have := hbX.size; omega
                      have hebW : eb < W2.heap.size := by omega
                      have hHad : HadAt X X eb n (.slice none 0 0) [] := ⟨FrB.refl _ _, hebX, by rw [heb]; exact block_below HNE.out hbX, ⟨World.ownsRow_nil _ _ _ _, fun r hr => by cases hr⟩⟩
                      have HHAD := Lib.hid hHad
                      have HPO := Lib.hid hpo
                      have HOK := Lib.hid hoK
                      have HBX := Lib.hid hbX
                      have HRDX := Lib.hid (HRD2.out.below hbX)
                      have HBXw := Lib.hid (below_from HBE2.out hbX)
                      have HBKX := Lib.hid (below_from HBK2.out hbX)
                      have hnrX := block_below HNR.out hbX
                      have HNRX := Lib.hid hnrX
                      have xcX := cell_below hbX xc2
                      have HXC := Lib.hid xcX
                      have HMKX := Lib.hid (HMK2.out.below hbX)
                      rw [← heb]
                      have heb1 : eb ≤ wk2.heap.size + 1 := by omega
                      have heb2 : wk2.heap.size + 1 ≤ eb := by omega
                      clear heb
                      clear hHad hpo hoK hbX hnrX xcX xc2
                      go_wp2_with fail
                      go_loopw [77] (fun i wr => ∃ (j : Nat) (cq : List CRow) (fv : Value), j ≤ K.length ∧ i = .int .i64 j ∧ HadAt X wr eb n fv cq ∧ cq.map CRow.chg = readR M (K.take j)) (fun i _ => K.length - (intOf i).toNat)
                      case atStart => exact ⟨0, [], _, by omega, rfl, HHAD.out, rfl⟩
                      case round =>
                        obtain ⟨j, cq, fv, hj, rfl, hhad, hcq⟩ := hrel
                        obtain ⟨wj, rfl⟩ : ∃ W, W = wr := ⟨wr, rfl⟩
                        have HH := Lib.hid hhad
                        have HCQ := Lib.hid hcq
                        clear hhad hcq
                        by_cases hjl : j < K.length
                        · have hoj := HH.out.fr.own HOK.out (fun b hb e => by
                            have := (HOK.out.lt b hb).1
                            omega)
                          obtain ⟨AK', cK', eK, _, htK⟩ := own_row hoj
                          injection eK with eK1 eK2 eK3
                          subst eK1 eK3
                          obtain ⟨ad, rfl, htx⟩ := htK (by omega)
                          have x1 := htx j hjl
                          have hpin : K[j] ∈ M.map Prod.fst := (HPO.out.mem _).1 (List.getElem_mem hjl)
                          have htk := readR_snoc M K j hjl
                          obtain ⟨p, hp⟩ : ∃ p, p = K[j] := ⟨_, rfl⟩
                          rw [← hp] at x1 hpin htk
                          have hpz : p.size ≤ 1000 := by
                            obtain ⟨x, hx, e⟩ := List.mem_map.1 hpin
                            have := (HOKF.out x hx).1
                            rw [← e]; omega
                          have HTK := Lib.hid htk
                          have HPIN := Lib.hid hpin
                          clear hoj htK htx hp htk hpin
                          by_cases h2 : 2 < p.size
                          · have d2 : decide ((2 : Int) < (p.size : Int)) = true := by simp; omega
                            cases hb2 : (p.extract 0 2).toList == [114, 47] with
                            | true =>
                              have HIS : Hid (isR p = true) := Lib.hid (by rw [isR, decide_eq_true h2, hb2]; rfl)
                              obtain ⟨d, hd⟩ : ∃ d, d = (getM M p).getD ⟨#[]⟩ := ⟨_, rfl⟩
                              have HDD := Lib.hid hd
                              have HS : Hid (∀ W, FrB (fun k => k = eb) X W → W.cell? ⟨eb, 5, none⟩ = some fv → W.cell? ⟨eb, 5, none⟩ = some fv ∧ W.cell? ⟨wk2.heap.size, 0, none⟩ = some (.int .i64 (n : Int)) ∧ W.cell? ⟨gr, orr + n, none⟩ = some (.map (some bm)) ∧ (Instr.lookup 38 (.map (some bm)) (.string p) false).run Tryd.prog W = .ok (.string d) W) := Lib.hid (fun W hW hc => ⟨hc, by
                                have h := hW.at_ HNRX.out (by omega)
                                simp [World.cell?, h], (World.cell?_of_block (a := ⟨gr, orr + n, none⟩) (hW.block gr (by omega) (by omega))).trans HXC.out, by
                                have hmj : FMapAt W bm M := HMKX.out.block (hW.block bm HMKX.out.lt (by omega))
                                rw [hd]
                                exact hmj.look Tryd.underlying38 p (by unfold maxLen; omega)⟩)
                              obtain ⟨jc, hjc, hcz0, hcz1, hcz2⟩ := info_parts infoChg
                              have hcql : cq.length ≤ 160 := by
                                have h := congrArg List.length HCQ.out
                                rw [List.length_map, readR, List.length_map] at h
                                have h3 := List.length_filter_le isR (K.take j)
                                rw [List.length_take] at h3
                                omega
                              have h20 : (2 : Int) ≤ (p.size : Int) := by omega
                              clear hd
                              go_wp2_with fail
                              clear hb2 d2
                              refine wp_region_G (fun w' => w'.cell? ⟨eb, 5, none⟩ = some fv ∧ w'.cell? ⟨wk2.heap.size, 0, none⟩ = some (.int .i64 (n : Int)) ∧ w'.cell? ⟨gr, orr + n, none⟩ = some (.map (some bm)) ∧ (Instr.lookup 38 (.map (some bm)) (.string p) false).run Tryd.prog w' = .ok (.string d) w') 16 17 (by kernel_rfl) (by kernel_rfl) ?_
                              have HX0 := Lib.hid (show Below wj.heap.size wj wj.drew from Below.drew (Below.refl _ _))
                              generalize hX0 : World.drew wj = X0 at *
                              have hS0 := HS.out X0 (HH.out.below HX0.out).fr (HH.out.below HX0.out).evcell.1
                              have HH0 := Lib.hid (HH.out.below HX0.out)
                              refine wpAnyG_takeP (i := 0) (v := ?_) rfl (by kernel_rfl) (by kernel_rfl) (by kernel_rfl) (by decide) (fun _ _ _ h => h) (Or.inl ⟨by rfl, ?hy⟩) (fun _ => hS0) ?_
                              case hy => (intro w' hSw; go_simp; try with_reducible rfl)
                              try simp only [Act.put, List.setIfInBounds_toArray, List.set_cons_zero, List.set_cons_succ]
                              refine wpAnyG_takeP (i := 2) (v := ?_) rfl (by kernel_rfl) (by kernel_rfl) (by kernel_rfl) (by decide) (fun _ _ _ h => h) (Or.inl ⟨by rfl, ?hy⟩) (fun _ => hS0) ?_
                              case hy => (intro w' hSw; go_simp; try with_reducible rfl)
                              try simp only [Act.put, List.setIfInBounds_toArray, List.set_cons_zero, List.set_cons_succ]
                              refine wpAnyG_takeP (i := 3) (v := ?_) rfl (by kernel_rfl) (by kernel_rfl) (by kernel_rfl) (by decide) (fun _ _ _ h => h) (Or.inl ⟨by rfl, ?hy⟩) (fun _ => hS0) ?_
                              case hy => (intro w' hSw; go_simp; try with_reducible rfl)
                              try simp only [Act.put, List.setIfInBounds_toArray, List.set_cons_zero, List.set_cons_succ]
                              refine wpAnyG_takeP (i := 4) (v := ?_) rfl (by kernel_rfl) (by kernel_rfl) (by kernel_rfl) (by decide) (fun _ _ _ h => h) (Or.inl ⟨by rfl, ?hy⟩) (fun _ => hS0) ?_
                              case hy => (intro w' hSw; go_simp; try with_reducible rfl)
                              try simp only [Act.put, List.setIfInBounds_toArray, List.set_cons_zero, List.set_cons_succ]
                              refine wpAnyG_takeP (i := 5) (v := ?_) rfl (by kernel_rfl) (by kernel_rfl) (by kernel_rfl) (by decide) (fun _ _ _ h => h) (Or.inl ⟨by rfl, ?hy⟩) (fun _ => hS0) ?_
                              case hy => (intro w' hSw; go_simp; try with_reducible rfl)
                              try simp only [Act.put, List.setIfInBounds_toArray, List.set_cons_zero, List.set_cons_succ]
                              refine wpAnyG_take (i := 1) (v := ?_) rfl rfl (by kernel_rfl) (by kernel_rfl) (by kernel_rfl) (by kernel_rfl) (by decide) (by kernel_rfl) (fun _ _ _ h => h) (Or.inl ⟨by rfl, ?hy⟩) hS0 ?_
                              case hy => (rintro w' ⟨hSw1, hSw2, hSw3, hSw4⟩; go_simp; try with_reducible rfl)
                              try simp only [Act.put, List.setIfInBounds_toArray, List.set_cons_zero, List.set_cons_succ]
                              refine wpAnyG_take (i := 6) (v := ?_) rfl rfl (by kernel_rfl) (by kernel_rfl) (by kernel_rfl) (by kernel_rfl) (by decide) (by kernel_rfl) (fun _ _ _ h => h) (Or.inl ⟨by rfl, ?hy⟩) hS0 ?_
                              case hy => (rintro w' ⟨hSw1, hSw2, hSw3, hSw4⟩; go_simp; try with_reducible rfl)
                              try simp only [Act.put, List.setIfInBounds_toArray, List.set_cons_zero, List.set_cons_succ]
                              refine wpAnyG_takeP (i := 7) (v := ?_) rfl (by kernel_rfl) (by kernel_rfl) (by kernel_rfl) (by decide) (fun _ _ _ h => h) (Or.inl ⟨by rfl, ?hy⟩) (fun _ => hS0) ?_
                              case hy => (intro w' hSw; go_simp; try with_reducible rfl)
                              try simp only [Act.put, List.setIfInBounds_toArray, List.set_cons_zero, List.set_cons_succ]
                              refine wpAnyG_take (i := 8) (v := ?_) rfl rfl (by kernel_rfl) (by kernel_rfl) (by kernel_rfl) (by kernel_rfl) (by decide) (by kernel_rfl) (fun _ _ _ h => h) (Or.inl ⟨by rfl, ?hy⟩) hS0 ?_
                              case hy => (rintro w' ⟨hSw1, hSw2, hSw3, hSw4⟩; go_simp; try with_reducible rfl)
                              try simp only [Act.put, List.setIfInBounds_toArray, List.set_cons_zero, List.set_cons_succ]
                              refine wpAnyG_takeP (i := 9) (v := ?_) rfl (by kernel_rfl) (by kernel_rfl) (by kernel_rfl) (by decide) (fun _ _ _ h => h) (Or.inl ⟨by rfl, ?hy⟩) (fun _ => hS0) ?_
                              case hy => (intro w' hSw; go_simp; try with_reducible rfl)
                              try simp only [Act.put, List.setIfInBounds_toArray, List.set_cons_zero, List.set_cons_succ]
                              refine wpAnyG_take (i := 10) (v := ?_) rfl rfl (by kernel_rfl) (by kernel_rfl) (by kernel_rfl) (by kernel_rfl) (by decide) (by kernel_rfl) (fun _ _ _ h => h) (Or.inl ⟨by rfl, ?hy⟩) hS0 ?_
                              case hy => (rintro w' ⟨hSw1, hSw2, hSw3, hSw4⟩; go_simp; try with_reducible rfl)
                              try simp only [Act.put, List.setIfInBounds_toArray, List.set_cons_zero, List.set_cons_succ]
                              refine wpAnyG_one (i := 11) (by kernel_rfl) ?_
                              refine wpOp_step rfl (fun K' hK => ?_)
                              have HK := Lib.hid hK
                              clear hK
                              rw [if_pos (by rfl)]
                              have hcv := run_bytes_of_string (P := Tryd.prog) X0 9 40 5 d Tryd.underlying9 Tryd.underlying40 Tryd.underlying5
                              have hcap := grownCap_ge X0 d.size 0 5
                              have hd1 := dataB_new X0 d (grownCap X0 d.size 0 5)
                              have hbc : Below X0.heap.size X0 (X0.drew.alloc (.cells (bytesRow d (grownCap X0 d.size 0 5)) 5 ((bytesRow d (grownCap X0 d.size 0 5)).size, (bytesRow d (grownCap X0 d.size 0 5)).size + 1))) := (Below.drew (Below.refl _ _)).trans (below_one X0.drew _)
                              have hbc0 := hbc.size
                              generalize grownCap X0 d.size 0 5 = cap1 at *
                              generalize X0.drew.alloc (.cells (bytesRow d cap1) 5 ((bytesRow d cap1).size, (bytesRow d cap1).size + 1)) = X1 at *
                              go_simp
                              have HX1 := Lib.hid (below_from HX0.out hbc)
                              refine HK.out _ _ ⟨fun _ => HS.out X1 (HH.out.below HX1.out).fr (HH.out.below HX1.out).evcell.1, ?_⟩
                              clear HK K' hcv
                              try simp only [Act.put, List.setIfInBounds_toArray, List.set_cons_zero, List.set_cons_succ]
                              have hS1 := HS.out X1 (HH.out.below HX1.out).fr (HH.out.below HX1.out).evcell.1
                              have HH1 := Lib.hid (HH.out.below HX1.out)
                              have HD1 := Lib.hid hd1
                              clear hd1 hbc hS0 HH0
                              refine wpAnyG_takeP (i := 12) (v := ?_) rfl (by kernel_rfl) (by kernel_rfl) (by kernel_rfl) (by decide) (fun _ _ _ h => h) (Or.inl ⟨by rfl, ?hy⟩) (fun _ => hS1) ?_
                              case hy => (intro w' hSw; go_simp; try with_reducible rfl)
                              try simp only [Act.put, List.setIfInBounds_toArray, List.set_cons_zero, List.set_cons_succ]
                              refine wpAnyG_one (i := 13) (by kernel_rfl) ?_
                              refine wpOp_step rfl (fun K' hK => ?_)
                              have HK := Lib.hid hK
                              clear hK
                              rw [if_pos (by rfl)]
                              go_simp
                              have hb2 := below_one X1 (.cells #[.string (p.extract 2 p.size), .slice (some ⟨X0.heap.size, 0, none⟩) d.size cap1, .bool false] 42)
                              have hsrc := src_three X1 (.string (p.extract 2 p.size)) (.slice (some ⟨X0.heap.size, 0, none⟩) d.size cap1) (.bool false) 42
                              have HX2 := Lib.hid (below_from HX1.out hb2)
                              refine HK.out _ _ ⟨fun _ => HS.out _ (HH.out.below HX2.out).fr (HH.out.below HX2.out).evcell.1, ?_⟩
                              clear HK K'
                              try simp only [Act.put, List.setIfInBounds_toArray, List.set_cons_zero, List.set_cons_succ]
                              have hS2 := HS.out _ (HH.out.below HX2.out).fr (HH.out.below HX2.out).evcell.1
                              have HH2 := Lib.hid (HH.out.below HX2.out)
                              have HD2 := Lib.hid (HD1.out.fr (FrB.of_below (S := fun _ => False) hb2) (ts := []) (fun k hk => hk.elim) (by simp))
                              have hz2 : X0.heap.size ≤ X1.heap.size := hbc0
                              generalize hX2 : X1.alloc (.cells #[.string (p.extract 2 p.size), .slice (some ⟨X0.heap.size, 0, none⟩) d.size cap1, .bool false] 42) = X2 at *
                              refine wpAnyG_one (i := 14) (by kernel_rfl) ?_
                              refine wpOp_step rfl (fun K' hK => ?_)
                              have HK := Lib.hid hK
                              clear hK
                              rw [if_pos (by rfl)]
                              refine wp_append_lies (w := X2) (.tmp 90) (.tmp 102) 26 rfl X.heap.size 42 jc (.agg #[.string ⟨#[]⟩, .slice none 0 0, .bool false]) 3 48 Tryd.underlying26 hjc hcz0 hcz1 hcz2 rfl (by decide) fv cq.length (flatC cq) (by simp [Act.eval]) HH2.out.files.own ⟨X1.heap.size, 0, none⟩ 1 1 [.string (p.extract 2 p.size), .slice (some ⟨X0.heap.size, 0, none⟩) d.size cap1, .bool false] (by simp [Act.eval]) rfl hsrc (fun u hu => by (simp at hu; rcases hu with rfl | rfl | rfl <;> rfl)) (by omega) (by unfold maxLen; omega) (by omega) HH2.out.fr.size X2.heap.size rfl ?_
                              intro g5 cap5 w5 hown5 hgr5 _ _
                              have hgood : GoodF X2 X.heap.size ⟨(p.extract 2 p.size, byteL d, false), some ⟨X0.heap.size, 0, none⟩, cap1⟩ := ⟨HD2.out.mono (HH.out.below HX0.out).fr.size, by show (byteL d).length ≤ cap1; rw [byteL_len]; exact hcap⟩
                              have hcells : CRow.cells ⟨(p.extract 2 p.size, byteL d, false), some ⟨X0.heap.size, 0, none⟩, cap1⟩ = [.string (p.extract 2 p.size), .slice (some ⟨X0.heap.size, 0, none⟩) d.size cap1, .bool false] := by
                                show [Value.string (p.extract 2 p.size), .slice (some ⟨X0.heap.size, 0, none⟩) (byteL d).length cap1, .bool false] = _
                                rw [byteL_len]
                              rw [← hcells] at hown5
                              obtain ⟨ha, hc5, hf5⟩ := HH2.out.app hgood hown5 hgr5
                              have y5 : w5.cell? ⟨eb, 5, none⟩ = some fv := by simp [World.cell?, hc5]
                              have f5 : w5.frozen? ⟨eb, 5, none⟩ = false := frozen_of_row _ eb 5 _ _ hc5
                              refine HK.out _ _ ⟨fun _ => HS.out w5 hf5 y5, ?_⟩
                              have HA5 := Lib.hid ha
                              have HS5 := Lib.hid (HS.out w5 hf5 y5)
                              clear HK K' hgood hcells hown5 hgr5 ha hc5 hf5 hsrc hS1 hS2
                              try simp only [Act.put, List.setIfInBounds_toArray, List.set_cons_zero, List.set_cons_succ]
                              refine wpAnyG_takeP (i := 15) (v := ?_) rfl (by kernel_rfl) (by kernel_rfl) (by kernel_rfl) (by decide) (fun _ _ _ h => h) (Or.inl ⟨by rfl, ?hy⟩) (fun _ => HS5.out) ?_
                              case hy => (intro w' hSw; go_simp; try with_reducible rfl)
                              try simp only [Act.put, List.setIfInBounds_toArray, List.set_cons_zero, List.set_cons_succ]
                              refine wpAnyG_one (i := 16) (by kernel_rfl) ?_
                              refine wpOp_step rfl (fun K' hK => ?_)
                              have HK := Lib.hid hK
                              clear hK
                              rw [if_pos (by rfl)]
                              go_simp
                              refine HK.out _ _ ⟨fun h => absurd h (by decide), ?_⟩
                              clear HK K' y5 f5
                              try simp only [Act.put, List.setIfInBounds_toArray, List.set_cons_zero, List.set_cons_succ]
                              refine wpAnyG_done (by kernel_rfl) ?_ _
                              go_wp2_with fail
                              go_roundw
                              case rel => exact ⟨j + 1, _, _, by omega, by go_num, HA5.out, by rw [List.map_append, HTK.out, HIS.out, HCQ.out, if_pos rfl]; rw [List.map_cons, List.map_nil, oneR, ← HDD.out]⟩
                              case measure => simp [intOf]; omega

                            | false =>
                              have HIS : Hid (isR p = false) := Lib.hid (by rw [isR, hb2, Bool.and_false])
                              go_wp2_with fail
                              go_roundw
                              case rel => exact ⟨j + 1, cq, fv, by omega, by go_num, HH.out, by rw [HTK.out, HIS.out, HCQ.out]; simp⟩
                              case measure => simp [intOf]; omega
                          · have d2 : decide ((2 : Int) < (p.size : Int)) = false := by simp; omega
                            have HIS : Hid (isR p = false) := Lib.hid (by rw [isR, decide_eq_false h2, Bool.false_and])
                            go_wp2_with fail
                            go_roundw
                            case rel => exact ⟨j + 1, cq, fv, by omega, by go_num, HH.out, by rw [HTK.out, HIS.out, HCQ.out]; simp⟩
                            case measure => simp [intOf]; omega
                        · obtain rfl : j = K.length := by omega
                          have hcq2 : cq.map CRow.chg = readR M K := by rw [HCQ.out, List.take_length]
                          have hfil := HH.out.files
                          obtain ⟨A6, c6, hfv, hc6, _⟩ := hfil.slice
                          have hsz6 : w3.heap.size ≤ X.heap.size := by
                            have := HRDX.out.fr.size
                            exact this
                          have hbkX : Below wk2.heap.size wk2 X := HBKX.out
                          have hbkj : Below wk2.heap.size wk2 wj := hbkX.trans (HH.out.fr.below hbkX.size (fun b hb => by omega))
                          have hrdj := HRD.out.below hbkj
                          rw [hfv] at hfil
                          have hGR : GoodRR wj w3.heap.size ⟨⟨(false, 0, (n : Int), ⟨#[114]⟩, ⟨#[]⟩, cq.map CRow.chg), A6, c6⟩, cq⟩ := ⟨hfil.mono hsz6, rfl⟩
                          have hRE : ReadEv Ms (false, 0, (n : Int), ⟨#[114]⟩, ⟨#[]⟩, cq.map CRow.chg) := by
                            refine ⟨rfl, by show (0 : Int) ≤ (n : Int); omega, by show (n : Int) < _; omega, ?_⟩
                            show hasM (Ms.getD ((n : Int)).toNat []) ⟨#[114]⟩ ⟨#[]⟩ (cq.map CRow.chg) = true
                            rw [hcq2, Int.toNat_natCast, List.getD_eq_getElem?_getD, List.getElem?_eq_getElem h1, Option.getD_some, ← HMEQ.out]
                            exact has_reads HONC.out HPO.out
                          have hEG : EvGood (false, 0, (n : Int), ⟨#[114]⟩, ⟨#[]⟩, cq.map CRow.chg) := by
                            rw [hcq2]
                            exact readR_good HPO.out HOKF.out (by omega) n
                          have HRDJ := Lib.hid hrdj
                          have hRl16 : R.length ≤ 16 := by omega
                          have hql8 : q.length ≤ 8 := by omega
                          have hce := HH.out.cell
                          rw [hfv, List.length_map] at hce
                          have hrb := HH.out.fr.at_ HNRX.out (show ¬ wk2.heap.size = eb by omega)
                          obtain ⟨RR, hRR⟩ : ∃ RR : ReadRow, RR = ⟨⟨(false, 0, (n : Int), ⟨#[114]⟩, ⟨#[]⟩, cq.map CRow.chg), A6, c6⟩, cq⟩ := ⟨_, rfl⟩
                          rw [← hRR] at hGR
                          have hRE2 : ReadEv Ms RR.ev.ev := by rw [hRR]; exact hRE
                          have hEG2 : EvGood RR.ev.ev := by rw [hRR]; exact hEG
                          have hcel : ERow.cells RR.ev = [.bool false, .int .i64 0, .int .i64 (n : Int), .string ⟨#[114]⟩, .string ⟨#[]⟩, .slice A6 cq.length c6] := by
                            rw [hRR]
                            show [Value.bool false, .int .i64 0, .int .i64 (n : Int), .string ⟨#[114]⟩, .string ⟨#[]⟩, .slice A6 (cq.map CRow.chg).length c6] = _
                            rw [List.length_map]
                          have HONE : Hid (∀ u ∈ ([.bool false, .int .i64 0, .int .i64 (n : Int), .string ⟨#[114]⟩, .string ⟨#[]⟩, .slice A6 cq.length c6] : List Value), u.oneCell' = true) := Lib.hid (by simp [Value.oneCell'])
                          have hovl : ∀ b, u5.ownBlock = some b → b < wk2.heap.size := fun b hb => (HRD.out.own.lt b hb).2
                          have HOVL := Lib.hid hovl
                          have hsrc1 := src_row wj (ERow.cells RR.ev) 28
                          have hb1 := below_one wj (.cells (ERow.cells RR.ev).toArray 28)
                          have hsz1 : (wj.alloc (.cells (ERow.cells RR.ev).toArray 28)).heap.size = wj.heap.size + 1 := by simp
                          have hrbA := block_below hrb hb1
                          have hceA := block_below hce hb1
                          have hGRA := hGR.fr (FrB.of_below (S := fun _ => False) hb1) (ts := []) (fun k hk => hk.elim) (by simp) (by simp)
                          have hRDA := hrdj.below hb1
                          rw [hcel] at hsrc1 hb1 hsz1 hrbA hceA hGRA hRDA
                          have q0 : wj.cell? ⟨eb, 0, none⟩ = some (.bool false) := by simp [World.cell?, hce]
                          have q1 : wj.cell? ⟨eb, 1, none⟩ = some (.int .i64 0) := by simp [World.cell?, hce]
                          have q2 : wj.cell? ⟨eb, 2, none⟩ = some (.int .i64 (n : Int)) := by simp [World.cell?, hce]
                          have q3 : wj.cell? ⟨eb, 3, none⟩ = some (.string ⟨#[114]⟩) := by simp [World.cell?, hce]
                          have q4 : wj.cell? ⟨eb, 4, none⟩ = some (.string ⟨#[]⟩) := by simp [World.cell?, hce]
                          have q5 : wj.cell? ⟨eb, 5, none⟩ = some (.slice A6 cq.length c6) := by simp [World.cell?, hce]
                          have HRBA := Lib.hid hrbA
                          have HCEA := Lib.hid hceA
                          have HGRA := Lib.hid hGRA
                          have HRDA := Lib.hid hRDA
                          have HSRC1 := Lib.hid hsrc1
                          have HRE2 := Lib.hid hRE2
                          have HEG2 := Lib.hid hEG2
                          have HCEL := Lib.hid hcel
                          clear hcq2 hfil hfv hc6 hbkX hbkj hrdj hGR hRE hEG hce hrb hRR hRE2 hEG2 hcel hovl hsrc1 hb1 hrbA hceA hGRA hRDA
                          cases hodd : (v1.tmod 2 == 1) with
                          | false =>
                            go_wp2_with (at_builtin; refine wpList_append_own_at _ rfl (.tmp 106) (.tmp 108) 25 rfl w1.heap.size 28 j0 (.agg #[.bool false, .int .i64 0, .int .i64 0, .string ⟨#[]⟩, .string ⟨#[]⟩, .slice none 0 0]) 6 80 Tryd.underlying25 hj0 hjz0 hjz1 hjz2 rfl (by decide) u5 (q.length + (R).length) (flatE (q ++ (R).map ReadRow.ev)) (by simp [Act.eval, Act.put]) HRDA.out.own ⟨wj.heap.size, 0, none⟩ 1 1 [.bool false, .int .i64 0, .int .i64 (n : Int), .string ⟨#[114]⟩, .string ⟨#[]⟩, .slice A6 cq.length c6] (by simp [Act.eval, Act.put]) rfl HSRC1.out HONE.out (by unfold maxLen; first | omega | (simp; done) | (simp; omega)) (by first | omega | (simp; done) | (simp; omega)) (by have := HRDA.out.fr.size; omega) ?_; intro v7 w7 hownw7 hgw7 _ hlw7; obtain ⟨hra, hgr7⟩ := HRDA.out.app HGRA.out HRE2.out HEG2.out (by rw [HCEL.out]; exact hownw7) hgw7 hlw7; have hrb7 := (hgw7.block wk2.heap.size (lt_of_block HRBA.out) (fun e => by have := HOVL.out _ e.symm; omega)).trans HRBA.out; have hce7 := (hgw7.block eb (lt_of_block HCEA.out) (fun e => by have := HOVL.out _ e.symm; omega)).trans HCEA.out; have y7 : w7.cell? ⟨wk2.heap.size, 1, none⟩ = some (.int .i64 v1) := (by simp [World.cell?, hrb7]); have HRA := Lib.hid hra; have HGR7 := Lib.hid hgr7; have HCE7 := Lib.hid hce7; clear hownw7 hgw7 hlw7 hra hgr7 hrb7 hce7 q0 q1 q2 q3 q4 q5)
                            go_roundw
                            case rel => exact ⟨k + 1, _, by omega, by go_num, by rw [List.length_append, List.length_singleton]; omega, HRA.out⟩
                            case measure => simp [intOf]; omega
                          | true =>
                            go_wp2_with (first | (at_builtin; refine wpList_append_own_at _ rfl (.tmp 106) (.tmp 108) 25 rfl w1.heap.size 28 j0 (.agg #[.bool false, .int .i64 0, .int .i64 0, .string ⟨#[]⟩, .string ⟨#[]⟩, .slice none 0 0]) 6 80 Tryd.underlying25 hj0 hjz0 hjz1 hjz2 rfl (by decide) u5 (q.length + (R).length) (flatE (q ++ (R).map ReadRow.ev)) (by simp [Act.eval, Act.put]) HRDA.out.own ⟨wj.heap.size, 0, none⟩ 1 1 [.bool false, .int .i64 0, .int .i64 (n : Int), .string ⟨#[114]⟩, .string ⟨#[]⟩, .slice A6 cq.length c6] (by simp [Act.eval, Act.put]) rfl HSRC1.out HONE.out (by unfold maxLen; first | omega | (simp; done) | (simp; omega)) (by first | omega | (simp; done) | (simp; omega)) (by have := HRDA.out.fr.size; omega) ?_; intro v7 w7 hownw7 hgw7 _ hlw7; obtain ⟨hra, hgr7⟩ := HRDA.out.app HGRA.out HRE2.out HEG2.out (by rw [HCEL.out]; exact hownw7) hgw7 hlw7; have hrb7 := (hgw7.block wk2.heap.size (lt_of_block HRBA.out) (fun e => by have := HOVL.out _ e.symm; omega)).trans HRBA.out; have hce7 := (hgw7.block eb (lt_of_block HCEA.out) (fun e => by have := HOVL.out _ e.symm; omega)).trans HCEA.out; have y7 : w7.cell? ⟨wk2.heap.size, 1, none⟩ = some (.int .i64 v1) := (by simp [World.cell?, hrb7]); have HRA := Lib.hid hra; have HGR7 := Lib.hid hgr7; have HCE7 := Lib.hid hce7; clear hownw7 hgw7 hlw7 hra hgr7 hrb7 hce7 q0 q1 q2 q3 q4 q5; have hsrc2 := src_row w7 (ERow.cells RR.ev) 28; have hb2 := below_one w7 (.cells (ERow.cells RR.ev).toArray 28); have hGRB := HGR7.out.fr (FrB.of_below (S := fun _ => False) hb2) (ts := []) (fun k hk => hk.elim) (by simp) (by simp); have hRDB := HRA.out.below hb2; rw [HCEL.out] at hsrc2 hb2 hGRB hRDB; have HSRC2 := Lib.hid hsrc2; have HGRB := Lib.hid hGRB; have HRDB := Lib.hid hRDB; have q0 : w7.cell? ⟨eb, 0, none⟩ = some (.bool false) := (by simp [World.cell?, HCE7.out]); have q1 : w7.cell? ⟨eb, 1, none⟩ = some (.int .i64 0) := (by simp [World.cell?, HCE7.out]); have q2 : w7.cell? ⟨eb, 2, none⟩ = some (.int .i64 (n : Int)) := (by simp [World.cell?, HCE7.out]); have q3 : w7.cell? ⟨eb, 3, none⟩ = some (.string ⟨#[114]⟩) := (by simp [World.cell?, HCE7.out]); have q4 : w7.cell? ⟨eb, 4, none⟩ = some (.string ⟨#[]⟩) := (by simp [World.cell?, HCE7.out]); have q5 : w7.cell? ⟨eb, 5, none⟩ = some (.slice A6 cq.length c6) := (by simp [World.cell?, HCE7.out]); clear hsrc2 hb2 hGRB hRDB) | (at_builtin; refine wpList_append_own_at _ rfl (.tmp 114) (.tmp 116) 25 rfl w1.heap.size 28 j0 (.agg #[.bool false, .int .i64 0, .int .i64 0, .string ⟨#[]⟩, .string ⟨#[]⟩, .slice none 0 0]) 6 80 Tryd.underlying25 hj0 hjz0 hjz1 hjz2 rfl (by decide) v7 (q.length + (R ++ [RR]).length) (flatE (q ++ (R ++ [RR]).map ReadRow.ev)) (by simp [Act.eval, Act.put]) HRDB.out.own ⟨w7.heap.size, 0, none⟩ 1 1 [.bool false, .int .i64 0, .int .i64 (n : Int), .string ⟨#[114]⟩, .string ⟨#[]⟩, .slice A6 cq.length c6] (by simp [Act.eval, Act.put]) rfl HSRC2.out HONE.out (by unfold maxLen; first | omega | (simp; done) | (simp; omega)) (by first | omega | (simp; done) | (simp; omega)) (by have := HRDB.out.fr.size; omega) ?_; intro v9 w9 hownw9 hgw9 _ hlw9; obtain ⟨hra9, _⟩ := HRDB.out.app HGRB.out HRE2.out HEG2.out (by rw [HCEL.out]; exact hownw9) hgw9 hlw9; have HRA9 := Lib.hid hra9; clear hownw9 hgw9 hlw9 hra9 q0 q1 q2 q3 q4 q5))
                            go_roundw
                            case rel => exact ⟨k + 1, _, by omega, by go_num, by simp; omega, HRA9.out⟩
                            case measure => simp [intOf]; omega
                    · have d1 : decide ((Ms.length : Int) ≤ (n : Int)) = true := decide_eq_true (by omega)
                      have HR1 := Lib.hid (HRD.out.below hb0)
                      clear hb0
                      go_wp2_with fail
                      go_roundw
                      case rel => exact ⟨k + 1, R, by omega, by go_num, by omega, HR1.out⟩
                      case measure => simp [intOf]; omega
                · obtain rfl : k = rs.length := by omega
                  have hall : ∀ r ∈ q ++ R.map ReadRow.ev, GoodE wk2 r := fun r hr => by
                    rcases List.mem_append.1 hr with hr | hr
                    · exact (HGQ.out r hr).below HBW.out
                    · obtain ⟨x, hx, rfl⟩ := List.mem_map.1 hr
                      exact (HRD.out.good x hx).1.good
                  have hown5 : wk2.ownsRow w1.heap.size 28 6 u5 (q ++ R.map ReadRow.ev).length (flatE (q ++ R.map ReadRow.ev)) := by
                    rw [List.length_append, List.length_map]; exact HRD.out.own
                  obtain ⟨A5, c5, rfl, hc5, hev5⟩ := evRow_own hown5 hall
                  have hmap : (q ++ R.map ReadRow.ev).map ERow.ev = pushE 0 l ++ R.map (fun r => r.ev.ev) := by rw [List.map_append, HQ2.out, List.map_map]; rfl
                  rw [hmap] at hev5 hc5 ⊢
                  have hel : (pushE 0 l ++ R.map (fun r => r.ev.ev)).length ≤ 24 := by rw [List.length_append, List.length_map, hpl]; omega
                  have hR5 := replay_reads HRE.out (R := R.map fun r => r.ev.ev) (fun e he => by
                    obtain ⟨x, hx, rfl⟩ := List.mem_map.1 he
                    exact (HRD.out.good x hx).2.1)
                  have hgood5 : ∀ e ∈ pushE 0 l ++ R.map (fun r => r.ev.ev), EvGood e := fun e he => by
                    rcases List.mem_append.1 he with he | he
                    · exact HF2.out e he
                    · obtain ⟨x, hx, rfl⟩ := List.mem_map.1 he
                      exact (HRD.out.good x hx).2.2
                  obtain ⟨evs, hevs⟩ : ∃ evs, evs = pushE 0 l ++ R.map (fun r => r.ev.ev) := ⟨_, rfl⟩
                  rw [← hevs] at hev5 hel hR5 hgood5 ⊢
                  have HRP5 := Lib.hid (replay_any A5 c5 evs wk2 (by omega) hev5 hgood5)
                  have HR5 := Lib.hid hR5
                  clear hall hown5 hmap hev5 hgood5 hevs hR5
                  go_wp2_with fail
                  refine HRP5.out.mono ?_
                  rintro e w6 (⟨Ms6, bs6, A6, c6, hre6, rfl, _, hb6⟩ | ⟨i, b, hre6, _⟩)
                  · rw [HR5.out] at hre6
                    injection hre6 with hre6
                    subst hre6
                    have HB6 := Lib.hid (below_from HBW.out hb6)
                    clear hb6
                    go_wp2_with fail
                    go_ret
                    exact ⟨rfl, HB6.out⟩
                  · rw [HR5.out] at hre6
                    cases hre6
            · rw [replay_pushes] at hre
              cases hre
    · have hl3 : decide ((8 : Int) < (rs.length : Int)) = true := by simp; omega
      go_enter Tryd.func3, Tryd.ntmps3
      go_wp2_with fail
      refine HK.out.mono ?_
      rintro e w1 ⟨rfl, hb1⟩
      go_wp2_with fail
      go_ret
      exact ⟨rfl, hb1⟩
  · have hl2 : decide ((8 : Int) < (l.length : Int)) = true := by simp; omega
    go_enter Tryd.func3, Tryd.ntmps3
    go_wp2_with fail
    refine HK.out.mono ?_
    rintro e w1 ⟨rfl, hb1⟩
    go_wp2_with fail
    go_ret
    exact ⟨rfl, hb1⟩
end Go.Proofs.YtkplkienbgoofaaDoor

namespace Go.Proofs.YtkplkienbgoofaaDoor
open Go.ChangeShapes Go.WideShapes Go.ChangeAt Go.RowKit
open Go.ChangeMaps (open_string shut_string)
open Go.Proofs.YtkplkienbgoofaaDoorW.PrintWords (Kd ReadsRow)
set_option maxRecDepth 100000 in
theorem storyReads_lifted (os : Os) (started : os.Started) (H : Type) (enc : TypeId × Value → H) :
    ReturnsInHanded {} Tryd.checked os 3 .any (fun w args => (Rows.storyReadsSpec.pre enc Tryd.prog Tryd.f3 Rows.storyReadsRow.domain false w args ∧ laidMetH Tryd.prog laid1 w) ∧ sizedMet enc Tryd.prog Tryd.f3 (OpenSpec.ofChange Rows.storyReadsSpec) false w args) (Rows.storyReadsSpec.post enc Tryd.prog Tryd.f3 false true false false) := by
  refine returns_and_shaped (C := Tryd.checked) (X := fun w _ => laidMetH Tryd.prog laid1 w) (fun _ _ _ hh h => h.of_heap hh) own started (by kernel_rfl) Tryd.func3
    (ChangeSpec.witness_shaped (enc := enc) (C := Tryd.checked) (os := os) (X := fun w _ => laidMetH Tryd.prog laid1 w) false (wit0 os) #[.slice none 0 0, .slice none 0 0] 8 (witE_os os) (witE_shaped os _) (by kernel_rfl) (by kernel_rfl) (by kernel_rfl) (witE_met os _)) ?_
  intro W base args ds gs before hval0 hW hcnd hsz0 hL hsh _
  have hsz : (DataW.weightsEach Tryd.prog (Tryd.f3.params.toList ++ Rows.storyReadsSpec.plain.varTypes Tryd.prog) (ds ++ gs)).all (· ≤ reachBytes) = true := hsz0
  have hval : ∀ (j : Nat) t v, Tryd.f3.params[j]? = some t → args[j]? = some v → Value.okWide Tryd.prog W .any base t v := hval0
  have hW' := hW
  obtain ⟨p, q, hA0, hV, rfl, hfz, hnd⟩ := hW
  have hA : DataW.TrodAll enc Tryd.prog W 0 (fun _ => true) true Tryd.f3.params.toList args.toList ds p := hA0
  rw [Tryd.params3] at hA hval hsz
  obtain ⟨v0, vs0, d0, ds0, p0, q0, hargs, rfl, rfl, h0, r0⟩ := trodAll_cons hA
  obtain ⟨v1, vs1, d1, ds1, p1, q1, rfl, rfl, rfl, h1, r1⟩ := trodAll_cons r0
  obtain ⟨rfl, rfl, rfl⟩ := trodAll_nil r1
  obtain rfl : args = #[v0, v1] := by cases args; simp_all
  obtain ⟨rfl, rfl⟩ := trodVars_none hV
  obtain ⟨a0, len0, cap0, rfl⟩ := okWide_slice Tryd.underlying22 (hval 0 22 v0 rfl rfl)
  have k0 := h0
  have lt0 : ∀ x ∈ p0, x.block < W.heap.size := by obtain ⟨m, hm⟩ := k0; exact DataW.trod_lt m _ _ _ hm
  obtain ⟨l0, w0, g0⟩ := arg_slice (d := (Kd.slice 42 (Kd.pair Kd.string (Kd.pair (Kd.slice 5 (Kd.int .u8)) Kd.bool)))) Tryd.underlying22 (by kernel_rfl) (opens_slice Tryd.underlying26 (by kernel_rfl) (opens_struct Tryd.underlying42 (by kernel_rfl) (opensF_cons rfl (by kernel_rfl) (opens_string Tryd.underlying9) (opensF_cons rfl (by kernel_rfl) (opens_slice Tryd.underlying40 (by kernel_rfl) (opens_int Tryd.underlying5)) (opensF_last rfl (by kernel_rfl) (opens_bool Tryd.underlying4)))))) h0
  obtain ⟨a1, len1, cap1, rfl⟩ := okWide_slice Tryd.underlying23 (hval 1 23 v1 rfl rfl)
  have k1 := h1
  have lt1 : ∀ x ∈ p1, x.block < W.heap.size := by obtain ⟨m, hm⟩ := k1; exact DataW.trod_lt m _ _ _ hm
  obtain ⟨l1, w1, g1⟩ := arg_slice (d := (Kd.pair (Kd.int .i64) (Kd.int .i64))) Tryd.underlying23 (by kernel_rfl) (opens_arr2 Tryd.underlying35 (by kernel_rfl) (by kernel_rfl) (opens_int Tryd.underlying3)) h1
  clear hA0 hval0 hsz0 hsz
  refine (storyReads_walk _ l0 _ l1 W w0 g0 w1 g1 ⟨et_of_laid1 hL, envM_of_shaped hsh⟩).mono fun e W' ⟨he, bel⟩ => ?_
  subst he
  exact ⟨_, rfl, _, _, _, [], _, [], hW', trodAll_mk1 (shut_bool Tryd.underlying4 _), (trodAll_cons_mk (Below.trod laidOut (by kernel_rfl) (of_decide_eq_true (by kernel_rfl)) k0 bel lt0) (trodAll_cons_mk (Below.trod laidOut (by kernel_rfl) (of_decide_eq_true (by kernel_rfl)) k1 bel lt1) trodAll_mk0)), rfl, bel.frame _, fun h => by cases h⟩
theorem storyReads_holds : Rows.StoryReadsSaid :=
  OpenClaim.holds_of_wide 3 Tryd.f3 rfl rfl rfl rfl rfl rfl rfl ⟨rfl, rfl, rfl, rfl, rfl⟩ rfl rfl rfl rfl rfl (by kernel_rfl) Tryd.func3 (by kernel_rfl)
    (of_decide_eq_true (by kernel_rfl)) (by unfold Func.isWrapper; first | (rw [if_pos (by decide +kernel)]; kernel_rfl) | (rw [if_neg (by decide +kernel)]; exact ⟨rfl, rfl⟩))
    (fun os started H enc _ => storyReads_lifted os started H enc)
theorem storyReads_card : Rows.StoryReadsCardSaid :=
  Claim7.holds_tied_plain_at .later [] [.handle] true (true, "4650d6d7e022db6e5f88d3746603eaf42603bce6862167dc9614cd758b44d70c") true
    storyReads_holds (fun _ h => by cases h) (by kernel_rfl) (fun _ h => by cases h) storyReads_row_tie rfl ⟨rfl, rfl⟩ (by kernel_rfl) rfl
    (fun f fn hf hfn => by
      obtain rfl : f = 3 := Option.some.inj ((show Tryd.prog.funcNamed "wharfinger/wharfingerlaw23.StoryReads" = some 3 by kernel_rfl).symm.trans hf) |>.symm
      obtain rfl : fn = Tryd.f3 := (Option.some.inj (Tryd.func3.symm.trans hfn)).symm
      exact ⟨by kernel_rfl, fun j t ht => by
        rw [Tryd.params3] at ht
        have hm : t ∈ [22, 23] := by simpa using Array.mem_of_getElem? ht
        have hall : ([22, 23].all fun u => !Tryd.prog.wantsStandIn u) = true := by kernel_rfl
        exact (show Tryd.prog.wantsStandIn t = false by simpa using List.all_eq_true.1 hall t hm)⟩)
    (by kernel_rfl)
#print axioms storyReads_card
end Go.Proofs.YtkplkienbgoofaaDoor

