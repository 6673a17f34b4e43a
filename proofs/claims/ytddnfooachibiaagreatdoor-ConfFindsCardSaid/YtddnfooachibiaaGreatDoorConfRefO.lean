/-
  The reference's open: a module more.
-/
import Derived.Test.YtddnfooachibiaaGreatDoorConfParseM
import Derived.Test.YtddnfooachibiaaGreatDoorConfParseL
import Derived.Deep.AppendLies
set_option linter.unusedVariables false
set_option linter.unusedSimpArgs false
namespace Go.Proofs.YtddnfooachibiaaGreatDoor
open Go.RowKit Go.Maps Go.WideMaps Go.WideAt
/-- 'append([]T{}, l...)' of a row that is read. -/
theorem wpList_clone_row {P : Program} {w3 : World} {ops : Array Oper} {rest : List Oper} {o : Oper} {a : Act} {Q : Exit → Act → World → Prop} (hgd : o.guard = none) (s x : Operand) (t : TypeId)
    (ho : o.op = .call { callee := .builtin .append, args := #[s, x], argTypes := #[t, t] })
    (e : TypeId) (i : TypeInfo) (z : Value) (size bytes : Nat) (ht : P.underlying t = some (.slice e)) (hi : P.info? e = some i) (hz : i.zero = some z)
    (hsize : i.size = size) (hby : i.bytes = bytes) (hzs : z.cells.size = size) (hsz : 0 < size)
    (v : Value) (n : Nat) (xs : List Value) (hs : a.eval s = .slice (some ⟨w3.heap.size, 0, none⟩) 0 0) (hx : a.eval x = v) (hrow : RowIn w3 v n xs) (hl : xs.length = n * size) (h1 : ∀ u ∈ xs, u.oneCell' = true)
    (h63 : n ≤ maxLen) (hbytes : n * bytes ≤ 140737488355328)
    (h : ∀ v' w', w'.ownsRow w3.heap.size e size v' n xs → Below w3.heap.size w3 w' → wpList P ops Q rest (a.put o.dst v') w') : wpList P ops Q (o :: rest) a (w3.alloc (.cells #[] e)) := by
  have hown0 : (w3.alloc (.cells #[] e)).ownsRow w3.heap.size e size (.slice (some ⟨w3.heap.size, 0, none⟩) 0 0) 0 [] := World.ownsRow_lit w3 #[] 0 (Nat.le_refl _) (by simp) (by simp)
  have hb1 := below_one w3 (.cells #[] e)
  obtain ⟨A, c, rfl, hnc, hr⟩ := hrow
  by_cases hn : 0 < n
  · obtain ⟨b, off, rfl, _, hcell⟩ := hr (by rw [hl]; exact Nat.mul_pos hn hsz)
    refine wpList_append_own _ hgd s x t ho w3.heap.size e i z size bytes ht hi hz hsize hby hzs hsz (.slice (some ⟨w3.heap.size, 0, none⟩) 0 0) 0 [] hs hown0 ⟨b, off, none⟩ n c xs hx hl (fun j u hj => ?_) h1 (by omega) (by simpa using hbytes) hb1.size ?_
    · obtain ⟨hj1, hj2⟩ := List.getElem?_eq_some_iff.1 hj
      rw [Addr.add_lit, ← hj2]
      exact cell_below hb1 (hcell j hj1)
    · intro v' w' ho' hg' _
      refine h v' w' (by simpa using ho') (hb1.grown hg' hb1.size (fun k hk => ?_))
      have : w3.heap.size = k := by simpa [Value.ownBlock] using hk
      omega
  · have h0 : n = 0 := by omega
    subst h0
    have hxs : xs = [] := List.length_eq_zero_iff.1 (by simpa using hl)
    subst hxs
    exact wpList_append_nothing hgd s x t ho e i ht hi (some ⟨w3.heap.size, 0, none⟩) 0 0 hs (Nat.le_refl _) A c hx (h _ _ hown0 hb1)
theorem uv_one {w : World} {v : Value} {n : Nat} {xs : List Value} (h : RowIn w v n xs) : v.oneCell' = true := by
  obtain ⟨A, c, rfl, _⟩ := h
  rfl
theorem flatR_one {w : World} {v : Value} {q : List RMRow} (h : RModsIn w v q) : ∀ u ∈ flatR q, u.oneCell' = true := fun u hu => by
  obtain ⟨r, hr, hu⟩ := List.mem_flatMap.1 hu
  have h1 := uv_one (h.us r hr)
  have h2 := uv_one (h.seen r hr)
  simp only [RMRow.cells, List.mem_cons, List.not_mem_nil, or_false] at hu
  rcases hu with rfl | rfl | rfl | rfl | rfl | rfl | rfl
  · rfl
  · rfl
  · rfl
  · rfl
  · rfl
  · exact h1
  · exact h2
/-- Does a line end as it should? -/
theorem suf_iff (l : List UInt8) : Lib.hasSuffix (l.drop 1) [93] = decide (2 ≤ l.length ∧ l.getLast? = some 93) := by
  have hh : Lib.hasSuffix (l.drop 1) [93] = true ↔ [93] <:+ l.drop 1 := by unfold Lib.hasSuffix; exact List.isSuffixOf_iff_suffix
  rw [Bool.eq_iff_iff, hh, decide_eq_true_eq]
  cases l with
  | nil => simp
  | cons c r =>
    rw [List.drop_one, List.tail_cons]
    constructor
    · rintro ⟨t, ht⟩
      rw [← ht]
      refine ⟨by simp, ?_⟩
      rw [← List.cons_append, List.getLast?_append]
      rfl
    · rintro ⟨h1, h2⟩
      have hr : r ≠ [] := fun e => by rw [e] at h1; simp at h1
      rw [List.getLast?_cons, List.getLast?_eq_some_getLast hr] at h2
      simp at h2
      exact ⟨r.dropLast, by rw [← h2]; exact List.dropLast_concat_getLast hr⟩
theorem suf_trim {l : List UInt8} (h : Lib.hasSuffix (l.drop 1) [93] = true) : Lib.trimSuffix (l.drop 1) [93] = (l.drop 1).take (l.length - 2) := by
  rw [Lib.trimSuffix, if_pos h, List.length_drop]
  rfl
theorem rfindC_at {q : List RMRow} {n : ByteArray} {k : Nat} (hk : k < q.length) (h : q[k].md.name = n) : (findC (q.map RMRow.md) n).isSome = true := by
  unfold findC
  rw [List.find?_isSome]
  exact ⟨q[k].md, List.mem_map.2 ⟨_, List.getElem_mem hk, rfl⟩, by simpa using h⟩
theorem rfindC_no {q : List RMRow} {n : ByteArray} (h : ∀ k (hk : k < q.length), q[k].md.name ≠ n) : (findC (q.map RMRow.md) n).isSome = false := by
  rw [Bool.eq_false_iff]
  intro hs
  unfold findC at hs
  rw [List.find?_isSome] at hs
  obtain ⟨m, hm, e⟩ := hs
  obtain ⟨r, hr, rfl⟩ := List.mem_map.1 hm
  obtain ⟨k, hk, rfl⟩ := List.getElem_of_mem hr
  exact h k hk (by simpa using e)
def newR (n : ByteArray) : RMRow := ⟨newMod n, .slice none 0 0, .slice none 0 0, []⟩
/-- What open comes to. -/
def OpenPost (A : Option Addr) (c : Nat) (q : List RMRow) (l : List UInt8) (seen : List ByteArray) (w : World) (e : Ending) (w' : World) : Prop :=
  Below w.heap.size w w' ∧ ((∃ x, openC ⟨q.map RMRow.md, seen⟩ l = .error x ∧ x ≠ 0 ∧ e = .returned (.tuple #[.slice A q.length c, .int .i64 x])) ∨
    (∃ A' c' n, openC ⟨q.map RMRow.md, seen⟩ l = .ok ⟨q.map RMRow.md ++ [newMod n], []⟩ ∧ e = .returned (.tuple #[.slice A' (q.length + 1) c', .int .i64 0]) ∧ RModsIn w' (.slice A' (q.length + 1) c') (q ++ [newR n])))
set_option maxRecDepth 100000 in
set_option maxHeartbeats 2000000 in
/-- The reference's open. -/
theorem ropen_any (A : Option Addr) (c : Nat) (q : List RMRow) (s : ByteArray) (seen : List ByteArray) (w : World) (hl : q.length ≤ 8) (h0 : 0 < s.size) (hs : s.size ≤ 8192) (hq : RModsIn w (.slice A q.length c) q) : Calls Tryz.prog 32 #[.slice A q.length c, .string s] w (OpenPost A c q s.data.toList seen w) := by
  have hlen : s.data.toList.length = s.size := by simp
  have hlast : s.data.toList.getLast? = some s[s.size - 1] := by
    rw [List.getLast?_eq_getElem?, hlen, List.getElem?_eq_getElem (by rw [hlen]; omega)]
    rfl
  have HSUF := Lib.hid (suf_iff s.data.toList)
  rw [hlen, hlast] at HSUF
  have HQ := Lib.hid hq
  have HQC := Lib.hid hq.at_
  have hi0 : (0 : Int) < s.size := by omega
  have h1s : 1 ≤ s.size := h0
  clear hq hlast
  by_cases e1 : s[s.size - 1] = 93
  · have b93 : ((s[s.size - 1].toNat : Int) != 93) = false := by rw [e1]; rfl
    by_cases e2 : s.size < 2
    · have d2 : decide ((s.size : Int) < 2) = true := decide_eq_true (by omega)
      have HR : Hid (openC ⟨q.map RMRow.md, seen⟩ s.data.toList = .error 130) := Lib.hid (openC_suf (by rw [HSUF.out]; exact decide_eq_false (by omega)))
      clear e1 e2
      go_enter Tryz.func32, Tryz.ntmps32
      go_wp2_with fail
      go_ret2
      exact ⟨Below.refl _ _, .inl ⟨130, HR.out, by decide, rfl⟩⟩
    · have d2 : decide ((s.size : Int) < 2) = false := decide_eq_false (by omega)
      have hsf : Lib.hasSuffix (s.data.toList.drop 1) [93] = true := by
        rw [HSUF.out]
        exact decide_eq_true ⟨by omega, by rw [e1]⟩
      have HSF := Lib.hid hsf
      obtain ⟨nm, hnm⟩ : ∃ x, x = s.extract 1 (s.size - 1) := ⟨_, rfl⟩
      have HNE : Hid (bA (Lib.trimSuffix (s.data.toList.drop 1) [93]) = nm) := Lib.hid (by
        rw [suf_trim hsf, hnm]
        refine bA_eq.2 ?_
        rw [ByteArray.data_extract]
        simp [List.drop_take, List.take_drop]
        try omega)
      have hnz : nm.size ≤ 8192 := by rw [hnm]; simp; omega
      have HRN := Lib.hid (fun W => rname_any nm W (by omega))
      have h2s : 1 ≤ s.size - 1 := by omega
      clear e1 hsf
      go_enter Tryz.func32, Tryz.ntmps32
      go_wp2_with fail
      rw [← hnm]
      cases hnc : nameC nm with
      | false =>
        have HR : Hid (openC ⟨q.map RMRow.md, seen⟩ s.data.toList = .error 131) := Lib.hid (openC_name HSF.out (by rw [HNE.out]; exact hnc))
        refine (HRN.out _).mono ?_
        rw [hnc]
        rintro e w2 ⟨rfl, h2⟩
        replace h2 := h2.symm
        subst h2
        clear hnc hnm
        go_wp2_with fail
        go_ret2
        exact ⟨Below.refl _ _, .inl ⟨131, HR.out, by decide, rfl⟩⟩
      | true =>
        have HNC : Hid (nameC (bA (Lib.trimSuffix (s.data.toList.drop 1) [93])) = true) := Lib.hid (by rw [HNE.out]; exact hnc)
        refine (HRN.out _).mono ?_
        rw [hnc]
        rintro e w2 ⟨rfl, h2⟩
        replace h2 := h2.symm
        subst h2
        clear hnc hnm
        go_wp2_with fail
        go_loopw [7] (fun i wr => ∃ k : Nat, k ≤ q.length ∧ i = .int .i64 k ∧ wr = w ∧ ∀ j (hj : j < q.length), j < k → q[j].md.name ≠ nm) (fun i _ => q.length - (intOf i).toNat)
        case atStart => exact ⟨0, by omega, rfl, rfl, fun j hj h => by omega⟩
        case round =>
          obtain ⟨k, hk, rfl, hwr, hno⟩ := hrel
          replace hwr := hwr.symm
          subst hwr
          have HNO := Lib.hid hno
          clear hno
          by_cases hlt : k < q.length
          · obtain ⟨A2, c2, e2', _, hcell⟩ := HQC.out
            injection e2' with e2' _ e3
            subst e2' e3
            obtain ⟨b, off, rfl, x1, _⟩ := hcell k hlt
            obtain ⟨x, hx⟩ : ∃ x, x = q[k].md.name := ⟨_, rfl⟩
            rw [← hx] at x1
            have HX := Lib.hid hx
            clear hcell hx
            by_cases ex : x = nm
            · have be := eq_beq ex
              have HR : Hid (openC ⟨q.map RMRow.md, seen⟩ s.data.toList = .error 5) := Lib.hid (openC_twice HSF.out HNC.out (by rw [HNE.out]; exact rfindC_at hlt (HX.out.symm.trans ex)))
              clear ex
              go_wp2_with fail
              go_ret2
              exact ⟨Below.refl _ _, .inl ⟨5, HR.out, by decide, rfl⟩⟩
            · have be := ne_beq ex
              have HE := Lib.hid ex
              clear ex
              go_wp2_with fail
              go_roundw
              case rel => exact ⟨k + 1, by omega, by go_num, (by first | exact True.intro | rfl), fun j hj h => by
                by_cases e : j = k
                · subst e; rw [← HX.out]; exact HE.out
                · exact HNO.out j hj (by omega)⟩
              case measure => simp [intOf]; omega
          · have HFN : Hid ((findC (q.map RMRow.md) (bA (Lib.trimSuffix (s.data.toList.drop 1) [93]))).isSome = false) := Lib.hid (by rw [HNE.out]; exact rfindC_no (fun k hk => HNO.out k hk (by omega)))
            obtain rfl : k = q.length := by omega
            by_cases h8 : 8 ≤ q.length
            · have d8 : decide ((8 : Int) ≤ q.length) = true := decide_eq_true (by omega)
              have b8 : (8 : Int) ≤ q.length := by omega
              have HR : Hid (openC ⟨q.map RMRow.md, seen⟩ s.data.toList = .error 3) := Lib.hid (openC_full HSF.out HNC.out HFN.out (by simpa using h8))
              clear h8
              go_wp2_with fail
              go_ret2
              exact ⟨Below.refl _ _, .inl ⟨3, HR.out, by decide, rfl⟩⟩
            · have b8 : ¬ (8 : Int) ≤ q.length := by omega
              have HR : Hid (openC ⟨q.map RMRow.md, seen⟩ s.data.toList = .ok ⟨q.map RMRow.md ++ [newMod nm], []⟩) := Lib.hid (by rw [openC_ok HSF.out HNC.out HFN.out (by simpa using h8), HNE.out])
              obtain ⟨j0, hj0, hjz0, hjz1, hjz2⟩ := info_parts infoRMod
              have hq8 : q.length ≤ 8 := hl
              clear h8
              go_wp2_with (first | (at_builtin; refine wpList_clone_row rfl (.tmp 48) (.tmp 49) 30 rfl 45 j0 (.agg #[.string ⟨#[]⟩, .string ⟨#[]⟩, .bool false, .int .i64 0, .int .i64 0, .slice none 0 0, .slice none 0 0]) 7 104 Tryz.underlying30 hj0 hjz0 hjz1 hjz2 rfl (by decide) (.slice A q.length c) q.length (flatR q) (by simp [Act.eval, Act.put]) (by simp [Act.eval, Act.put]) HQ.out.row (flatR_len q) (flatR_one HQ.out) (by unfold maxLen; omega) (by omega) ?_; intro v5 w5 hown5 hb5; have HB5 := Lib.hid hb5; have hb6 := below_one w5 (.cells #[.string nm, .string ⟨#[]⟩, .bool false, .int .i64 16, .int .i64 262144, .slice none 0 0, .slice none 0 0] 45); have HB6 := Lib.hid (below_from hb5 hb6); have HO6 := Lib.hid (own_stay hown5 hb6); have HSRC := Lib.hid (src_row w5 [.string nm, .string ⟨#[]⟩, .bool false, .int .i64 16, .int .i64 262144, .slice none 0 0, .slice none 0 0] 45); have HSZ := Lib.hid HB6.out.size; clear hown5 hb5 hb6) | (at_builtin; go_loud (refine wpList_append_own _ rfl (.tmp 51) (.tmp 54) 30 rfl w.heap.size 45 j0 (.agg #[.string ⟨#[]⟩, .string ⟨#[]⟩, .bool false, .int .i64 0, .int .i64 0, .slice none 0 0, .slice none 0 0]) 7 104 Tryz.underlying30 hj0 hjz0 hjz1 hjz2 rfl (by decide) v5 q.length (flatR q) (by simp [Act.eval, Act.put]) HO6.out ⟨w5.heap.size, 0, none⟩ 1 1 [.string nm, .string ⟨#[]⟩, .bool false, .int .i64 16, .int .i64 262144, .slice none 0 0, .slice none 0 0] (by simp [Act.eval, Act.put]) rfl HSRC.out (by simp [Value.oneCell']) (by unfold maxLen; omega) (by omega) HSZ.out ?_; intro v7 w7 hown7 hg7 _; obtain ⟨A7, c7, rfl⟩ := own_slice hown7; have HO7 := Lib.hid hown7; have HB7 := Lib.hid (HB6.out.grown hg7 HSZ.out (fun j hj => (HO6.out.lt j hj).1)); clear hown7 hg7)))
              go_ret2
              refine ⟨HB7.out, .inr ⟨A7, c7, nm, HR.out, rfl, ⟨?_, fun r hr => ?_, fun r hr => ?_⟩⟩⟩
              · rw [List.length_append, List.length_singleton, flatR_snoc]
                exact RowIn.of_own HO7.out (by decide)
              · rcases List.mem_append.1 hr with hr | hr
                · exact (HQ.out.us r hr).below HB7.out
                · rw [List.mem_singleton.1 hr]
                  exact RowIn.nil _ _ _
              · rcases List.mem_append.1 hr with hr | hr
                · exact (HQ.out.seen r hr).below HB7.out
                · rw [List.mem_singleton.1 hr]
                  exact RowIn.nil _ _ _
  · have b93 : ((s[s.size - 1].toNat : Int) != 93) = true := by
      rw [bne_iff_ne]
      intro h
      exact e1 (UInt8.toNat_inj.1 (by simp; omega))
    have HR : Hid (openC ⟨q.map RMRow.md, seen⟩ s.data.toList = .error 130) := Lib.hid (openC_suf (by rw [HSUF.out]; exact decide_eq_false (fun h => e1 (Option.some.inj h.2))))
    clear e1
    go_enter Tryz.func32, Tryz.ntmps32
    go_wp2_with fail
    go_ret2
    exact ⟨Below.refl _ _, .inl ⟨130, HR.out, by decide, rfl⟩⟩
end Go.Proofs.YtddnfooachibiaaGreatDoor
