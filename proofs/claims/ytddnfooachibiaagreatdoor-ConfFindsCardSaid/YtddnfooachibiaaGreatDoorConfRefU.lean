/-
  The reference's user: a user more.
-/
import Derived.Test.YtddnfooachibiaaGreatDoorConfRefO
import Derived.StillTailTactics
set_option linter.unusedVariables false
set_option linter.unusedSimpArgs false
namespace Go.Proofs.YtddnfooachibiaaGreatDoor
open Go.RowKit Go.Maps Go.WideMaps Go.WideAt
theorem cells_seven {w : World} {b : Nat} {t : TypeId} {o0 o1 o2 o3 o4 o5 o6 : Value} (h : w.heap[b]? = some (.cells #[o0, o1, o2, o3, o4, o5, o6] t (0, 0))) :
    (w.cell? ⟨b, 0, none⟩ = some o0 ∧ w.cell? ⟨b, 1, none⟩ = some o1 ∧ w.cell? ⟨b, 2, none⟩ = some o2 ∧ w.cell? ⟨b, 3, none⟩ = some o3 ∧ w.cell? ⟨b, 4, none⟩ = some o4 ∧ w.cell? ⟨b, 5, none⟩ = some o5 ∧ w.cell? ⟨b, 6, none⟩ = some o6) ∧
    (w.frozen? ⟨b, 0, none⟩ = false ∧ w.frozen? ⟨b, 1, none⟩ = false ∧ w.frozen? ⟨b, 2, none⟩ = false ∧ w.frozen? ⟨b, 3, none⟩ = false ∧ w.frozen? ⟨b, 4, none⟩ = false ∧ w.frozen? ⟨b, 5, none⟩ = false ∧ w.frozen? ⟨b, 6, none⟩ = false) := by
  refine ⟨⟨?_, ?_, ?_, ?_, ?_, ?_, ?_⟩, ⟨?_, ?_, ?_, ?_, ?_, ?_, ?_⟩⟩
  all_goals first | (rw [cell_of_row _ _ _ _ _ _ h]; rfl) | exact frozen_of_row _ _ _ _ _ h
theorem put_seven {w : World} {b : Nat} {t : TypeId} {o0 o1 o2 o3 o4 o5 o6 : Value} (h : w.heap[b]? = some (.cells #[o0, o1, o2, o3, o4, o5, o6] t (0, 0))) (v0 v1 v2 v3 v4 v5 v6 : Value) :
    (w.setCells b 0 [v0, v1, v2, v3, v4, v5, v6]).heap[b]? = some (.cells #[v0, v1, v2, v3, v4, v5, v6] t (0, 0)) := by
  obtain ⟨cur, hn4, hcz, hcl⟩ := YtddnfooachibiaaGreatDoorW.PrintWords.setCells_row [v0, v1, v2, v3, v4, v5, v6] 0 _ _ h (by simp)
  have hcur : cur = #[v0, v1, v2, v3, v4, v5, v6] := by
    apply Array.ext'
    rw [hcl]; rfl
  rw [hcur] at hn4
  exact hn4
theorem load_rmod {W : World} {g : Nat} {nm rt : ByteArray} {wb : Bool} {sl qu : Int} {uv sv : Value} (h : W.heap[g]? = some (Obj.cells #[.string nm, .string rt, .bool wb, .int .i64 sl, .int .i64 qu, uv, sv] 45 (0, 0))) :
    (loadVar 45 ⟨g, 0, none⟩).run Tryz.prog W = .ok (.agg #[.string nm, .string rt, .bool wb, .int .i64 sl, .int .i64 qu, uv, sv]) W := by
  refine run_loadVar_mid W g 0 45 [.string nm, .string rt, .bool wb, .int .i64 sl, .int .i64 qu, uv, sv] _ (fun k u hk => ?_) Tryz.underlying45 (by kernel_rfl) (by kernel_rfl)
  rw [cell_of_row W _ _ _ _ _ h]
  simpa using hk
def zR7 : Obj := .cells #[.string ⟨#[]⟩, .string ⟨#[]⟩, .bool false, .int .i64 0, .int .i64 0, .slice none 0 0, .slice none 0 0] 45
/-- The end: what lies in a block is put into the result's. -/
theorem ret_seven {w W : World} {b : Nat} (hb : w.heap.size ≤ b) (hW : Below w.heap.size w W) {o0 o1 o2 o3 o4 o5 o6 : Value} (h : W.heap[b]? = some (.cells #[o0, o1, o2, o3, o4, o5, o6] 45 (0, 0))) (nm rt : ByteArray) (wb : Bool) (sl qu : Int) (uv sv : Value) :
    (loadVar 45 ⟨b, 0, none⟩).run Tryz.prog (W.setCells b 0 [.string nm, .string rt, .bool wb, .int .i64 sl, .int .i64 qu, uv, sv]) = .ok (.agg #[.string nm, .string rt, .bool wb, .int .i64 sl, .int .i64 qu, uv, sv]) (W.setCells b 0 [.string nm, .string rt, .bool wb, .int .i64 sl, .int .i64 qu, uv, sv]) ∧
    Below w.heap.size w (W.setCells b 0 [.string nm, .string rt, .bool wb, .int .i64 sl, .int .i64 qu, uv, sv]) ∧ FrB (fun k => k = b) W (W.setCells b 0 [.string nm, .string rt, .bool wb, .int .i64 sl, .int .i64 qu, uv, sv]) := by
  have hf : ∀ (vs : List Value) (o : Nat) (X : World), FrB (fun k => k = b) X (X.setCells b o vs) := by
    intro vs
    induction vs with
    | nil => intro o X; exact FrB.refl _ _
    | cons v r ih => intro o X; exact (FrB.set (S := fun k => k = b) (n := o) v rfl).trans (ih (o + 1) _) (fun k _ h => h)
  exact ⟨load_rmod (put_seven h _ _ _ _ _ _ _), hW.trans ((below_setCells_of b _ _ _).mono hb), hf _ _ _⟩
/-- A row is the one that it was, or a new one. -/
def RowNew {α : Type} (w : World) (v0 : Value) (l0 : α) (v : Value) (l : α) : Prop := (v = v0 ∧ l = l0) ∨ ∀ b, v.ownBlock = some b → w.heap.size ≤ b
/-- What the reference's set, and user, come to. -/
def RSetPost (r : RMRow) (m : Except Int (ModC × List ByteArray)) (w : World) (e : Ending) (w' : World) : Prop :=
  Below w.heap.size w w' ∧ ∃ (r' : RMRow) (x : Int), e = .returned (.tuple #[r'.val, .int .i64 x]) ∧ UsersIn w' r'.uv r'.md.us ∧ SeenIn w' r'.sv r'.seen ∧ (RowNew w r.uv r.md.us r'.uv r'.md.us ∧ RowNew w r.sv r.seen r'.sv r'.seen) ∧ ((∃ y, m = .error y ∧ y ≠ 0 ∧ x = y) ∨ (m = .ok (r'.md, r'.seen) ∧ x = 0))
theorem rsecret_at {us : List (ByteArray × ByteArray)} {n : ByteArray} {k : Nat} (hk : k < us.length) (h : us[k].1 = n) : (secretC us n).isSome = true := by
  unfold secretC
  rw [Option.isSome_map, List.find?_isSome]
  exact ⟨us[k], List.getElem_mem hk, by simpa using h⟩
theorem rsecret_no {us : List (ByteArray × ByteArray)} {n : ByteArray} (h : ∀ k (hk : k < us.length), us[k].1 ≠ n) : (secretC us n).isSome = false := by
  rw [Bool.eq_false_iff]
  intro hs
  unfold secretC at hs
  rw [Option.isSome_map, List.find?_isSome] at hs
  obtain ⟨m, hm, e⟩ := hs
  obtain ⟨k, hk, rfl⟩ := List.getElem_of_mem hm
  exact h k hk (by simpa using e)
theorem usC_one (us : List (ByteArray × ByteArray)) : ∀ u ∈ usC us, u.oneCell' = true := fun u hu => by
  obtain ⟨r, hr, hu⟩ := List.mem_flatMap.1 hu
  simp only [List.mem_cons, List.not_mem_nil, or_false] at hu
  rcases hu with rfl | rfl <;> rfl
theorem step_append_own {P : Program} {ops : Array Oper} {o : Oper} {a : Act} {w : World} {K : Act → World → Prop} {Q : Exit → Act → World → Prop} {E : Prop} (hg : o.guard = none) (s x : Operand) (t : TypeId)
    (ho : o.op = .call { callee := .builtin .append, args := #[s, x], argTypes := #[t, t] })
    (base : Nat) (e : TypeId) (i : TypeInfo) (z : Value) (size bytes : Nat) (ht : P.underlying t = some (.slice e)) (hi : P.info? e = some i) (hz : i.zero = some z)
    (hsize : i.size = size) (hby : i.bytes = bytes) (hzs : z.cells.size = size) (hsz : 0 < size)
    (v : Value) (n : Nat) (xs : List Value) (hs : a.eval s = v) (hown : w.ownsRow base e size v n xs)
    (ad : Addr) (m c : Nat) (news : List Value) (hx : a.eval x = .slice (some ad) m c) (hl : news.length = m * size) (hnews : ∀ j u, news[j]? = some u → w.cell? (ad.add j) = some u) (h1 : ∀ u ∈ news, u.oneCell' = true)
    (h63 : n + m ≤ maxLen) (hbytes : (n + m) * bytes ≤ 140737488355328) (hbase : base ≤ w.heap.size)
    (h : ∀ v' w', w'.ownsRow base e size v' (n + m) (xs ++ news) → w.grownBy w' v.ownBlock → K (a.put o.dst v') w') :
    if Region.wanted o (yielded ops a.tmps) = true then Oper.wp P o a w K Q else E := by
  have hw : Region.wanted o (yielded ops a.tmps) = true := by simp [Region.wanted, hg]
  rw [if_pos hw]
  exact wp_append_own w s x t ho base e i z size bytes ht hi hz hsize hby hzs hsz v n xs hs hown ad m c news hx hl hnews h1 h63 hbytes hbase (fun v' w' h2 h3 _ => h v' w' h2 h3)
set_option maxRecDepth 100000 in
set_option maxHeartbeats 4000000 in
/-- The reference's user. -/
theorem ruser_any (r : RMRow) (v : ByteArray) (w : World) (hv : v.size ≤ 8192) (hn : r.md.us.length ≤ 8) (hu : UsersIn w r.uv r.md.us) (hs : SeenIn w r.sv r.seen) :
    Calls Tryz.prog 54 #[r.val, .string v] w (RSetPost r ((userC r.md v).map fun m => (m, r.seen)) w) := by
  obtain ⟨⟨nm, rt, wb, sl, qu, us⟩, uv, sv, seen⟩ := r
  simp only at hu hs hn ⊢
  obtain ⟨Au, cu, huv, hcu⟩ := RowIn.slice hu
  obtain ⟨As, cs, hsv, hcs⟩ := RowIn.slice hs
  subst huv hsv
  have hvl : v.data.toList.length = v.size := by simp
  have HUC : Hid (userC ⟨nm, rt, wb, sl, qu, us⟩ v = _) := Lib.hid (userC.eq_1 ⟨nm, rt, wb, sl, qu, us⟩ v)
  have hb1 := below_one w (.cells #[.string nm, .string rt, .bool wb, .int .i64 sl, .int .i64 qu, .slice Au us.length cu, .slice As seen.length cs] 45)
  have hn1 := heap_alloc_new w (.cells #[.string nm, .string rt, .bool wb, .int .i64 sl, .int .i64 qu, .slice Au us.length cu, .slice As seen.length cs] 45)
  have hz1 : (w.alloc (.cells #[.string nm, .string rt, .bool wb, .int .i64 sl, .int .i64 qu, .slice Au us.length cu, .slice As seen.length cs] 45)).heap.size = w.heap.size + 1 := by simp
  have hb2 := below_one (w.alloc (.cells #[.string nm, .string rt, .bool wb, .int .i64 sl, .int .i64 qu, .slice Au us.length cu, .slice As seen.length cs] 45)) zR7
  have hn2 := heap_alloc_new (w.alloc (.cells #[.string nm, .string rt, .bool wb, .int .i64 sl, .int .i64 qu, .slice Au us.length cu, .slice As seen.length cs] 45)) zR7
  have hz2 : ((w.alloc (.cells #[.string nm, .string rt, .bool wb, .int .i64 sl, .int .i64 qu, .slice Au us.length cu, .slice As seen.length cs] 45)).alloc zR7).heap.size = w.heap.size + 2 := by simp
  rw [hz1] at hn2
  have hn12 := block_below hn1 hb2
  have hbb := below_from hb1 hb2
  unfold zR7 at hn2 hn12 hbb hz2
  clear hb1 hn1 hz1 hb2
  show Calls Tryz.prog 54 #[.agg #[.string nm, .string rt, .bool wb, .int .i64 sl, .int .i64 qu, .slice Au us.length cu, .slice As seen.length cs], .string v] w _
  generalize hW2 : (w.alloc (.cells #[.string nm, .string rt, .bool wb, .int .i64 sl, .int .i64 qu, .slice Au us.length cu, .slice As seen.length cs] 45)).alloc (.cells #[.string ⟨#[]⟩, .string ⟨#[]⟩, .bool false, .int .i64 0, .int .i64 0, .slice none 0 0, .slice none 0 0] 45) = W2 at hn2 hn12 hbb hz2
  have HU := Lib.hid (RowIn.below hu hbb)
  have HS := Lib.hid (RowIn.below hs hbb)
  have HBB := Lib.hid hbb
  have HN1 := Lib.hid hn12
  have HN2 := Lib.hid hn2
  have HF := Lib.hid (rfind_any v 58 W2 (by omega))
  obtain ⟨⟨x0, x1, x2, x3, x4, x5, x6⟩, _⟩ := cells_seven hn12
  obtain ⟨⟨y0, y1, y2, y3, y4, y5, y6⟩, ⟨f0, f1, f2, f3, f4, f5, f6⟩⟩ := cells_seven hn2
  have HRE := Lib.hid (ret_seven (w := w) (b := w.heap.size + 1) (Nat.le_succ _) hbb hn2 nm rt wb sl qu (.slice Au us.length cu) (.slice As seen.length cs))
  have HUF : Hid (UsersIn (W2.setCells (w.heap.size + 1) 0 [.string nm, .string rt, .bool wb, .int .i64 sl, .int .i64 qu, .slice Au us.length cu, .slice As seen.length cs]) (.slice Au us.length cu) us ∧ SeenIn (W2.setCells (w.heap.size + 1) 0 [.string nm, .string rt, .bool wb, .int .i64 sl, .int .i64 qu, .slice Au us.length cu, .slice As seen.length cs]) (.slice As seen.length cs) seen) := Lib.hid ⟨hu.below HRE.out.2.1, hs.below HRE.out.2.1⟩
  have HU0 := Lib.hid hu
  have HS0 := Lib.hid hs
  clear hu hs hbb hn12 hn2
  rcases find_cut 58 v.data.toList with ⟨hfi, hno, hcut⟩ | ⟨la, lb, hsp, hno, hfi, hcut⟩
  · have HR : Hid ((userC ⟨nm, rt, wb, sl, qu, us⟩ v).map (fun m => (m, seen)) = .error 130) := Lib.hid (by rw [HUC.out, hcut, if_pos (.inl rfl)]; rfl)
    rw [hfi] at HF
    clear hfi hno hcut HUC
    go_enter Tryz.func54, Tryz.ntmps54
    go_wp2_with fail
    try rw [hW2]
    refine HF.out.mono ?_
    rintro e w2 ⟨rfl, h2⟩
    replace h2 := h2.symm
    subst h2
    clear hW2
    go_wp2_with fail
    exact bodyPost_ret (res_cell_tmp rfl _ _ _ rfl HRE.out.1) rfl ⟨HRE.out.2.1, ⟨⟨nm, rt, wb, sl, qu, us⟩, .slice Au us.length cu, .slice As seen.length cs, seen⟩, 130, rfl, HUF.out.1, HUF.out.2, ⟨.inl ⟨rfl, rfl⟩, .inl ⟨rfl, rfl⟩⟩, .inl ⟨130, HR.out, by decide, rfl⟩⟩
  · have hvs : v.size = la.length + 1 + lb.length := by
      rw [← hvl, hsp]
      simp
      omega
    rw [hfi] at HF
    have HVS := Lib.hid hvs
    have hneg : decide ((la.length : Int) < 0) = false := decide_eq_false (by omega)
    have HCUT := Lib.hid hcut
    have HNA : Hid (bA la = v.extract 0 la.length) := Lib.hid (by
      refine bA_eq.2 ?_
      rw [Lib.extract_upto, hsp]
      simp)
    have HNB : Hid (bA lb = v.extract (la.length + 1) v.size) := Lib.hid (by
      refine bA_eq.2 ?_
      rw [Lib.extract_from, hsp]
      simp [List.drop_append])
    have HRN := Lib.hid (fun W => rname_any (v.extract 0 la.length) W (by simp; omega))
    have hlv : la.length ≤ v.size := by omega
    clear hfi hno hcut hsp hvs x0 x1 x2 x3 x4 x5 x6 y0 y1 y2 y3 y4 y5 y6 f0 f1 f2 f3 f4 f5 f6 HRE HUF hvl
    by_cases e0 : lb.length = 0
    · have ge : ((la.length : Int) == (v.size : Int) - 1) = true := by have := HVS.out; rw [beq_iff_eq]; omega
      have HR : Hid ((userC ⟨nm, rt, wb, sl, qu, us⟩ v).map (fun m => (m, seen)) = .error 130) := Lib.hid (by rw [HUC.out, HCUT.out, if_pos (.inr (.inl (List.length_eq_zero_iff.1 e0)))]; rfl)
      have hbW := Below.refl W2.heap.size W2
      go_enter Tryz.func54, Tryz.ntmps54
      go_wp2_with fail
      try rw [hW2]
      refine HF.out.mono ?_
      rintro e w2 ⟨rfl, h2⟩
      replace h2 := h2.symm
      subst h2
      clear hW2
      have hn1' := block_below HN1.out hbW
      have hn2' := block_below HN2.out hbW
      have HRE := Lib.hid (ret_seven (w := w) (b := w.heap.size + 1) (Nat.le_succ _) (below_from HBB.out hbW) hn2' nm rt wb sl qu (.slice Au us.length cu) (.slice As seen.length cs))
      obtain ⟨⟨x0, x1, x2, x3, x4, x5, x6⟩, _⟩ := cells_seven hn1'
      obtain ⟨⟨y0, y1, y2, y3, y4, y5, y6⟩, ⟨f0, f1, f2, f3, f4, f5, f6⟩⟩ := cells_seven hn2'
      clear hn1' hn2'
      go_wp2_with fail
      exact bodyPost_ret (res_cell_tmp rfl _ _ _ rfl HRE.out.1) rfl ⟨HRE.out.2.1, ⟨⟨nm, rt, wb, sl, qu, us⟩, .slice Au us.length cu, .slice As seen.length cs, seen⟩, 130, rfl, RowIn.below HU0.out HRE.out.2.1, RowIn.below HS0.out HRE.out.2.1, ⟨.inl ⟨rfl, rfl⟩, .inl ⟨rfl, rfl⟩⟩, .inl ⟨130, HR.out, by decide, rfl⟩⟩
    · have ge : ((la.length : Int) == (v.size : Int) - 1) = false := by have := HVS.out; rw [beq_eq_false_iff_ne]; omega
      by_cases e1 : 16 < lb.length
      · have gg : decide ((16 : Int) < (v.size : Int) - la.length - 1) = true := decide_eq_true (by have := HVS.out; omega)
        have HR : Hid ((userC ⟨nm, rt, wb, sl, qu, us⟩ v).map (fun m => (m, seen)) = .error 130) := Lib.hid (by rw [HUC.out, HCUT.out, if_pos (.inr (.inr e1))]; rfl)
        have hbW := Below.refl W2.heap.size W2
        go_enter Tryz.func54, Tryz.ntmps54
        go_wp2_with fail
        try rw [hW2]
        refine HF.out.mono ?_
        rintro e w2 ⟨rfl, h2⟩
        replace h2 := h2.symm
        subst h2
        clear hW2
        have hn1' := block_below HN1.out hbW
        have hn2' := block_below HN2.out hbW
        have HRE := Lib.hid (ret_seven (w := w) (b := w.heap.size + 1) (Nat.le_succ _) (below_from HBB.out hbW) hn2' nm rt wb sl qu (.slice Au us.length cu) (.slice As seen.length cs))
        obtain ⟨⟨x0, x1, x2, x3, x4, x5, x6⟩, _⟩ := cells_seven hn1'
        obtain ⟨⟨y0, y1, y2, y3, y4, y5, y6⟩, ⟨f0, f1, f2, f3, f4, f5, f6⟩⟩ := cells_seven hn2'
        clear hn1' hn2'
        go_wp2_with fail
        exact bodyPost_ret (res_cell_tmp rfl _ _ _ rfl HRE.out.1) rfl ⟨HRE.out.2.1, ⟨⟨nm, rt, wb, sl, qu, us⟩, .slice Au us.length cu, .slice As seen.length cs, seen⟩, 130, rfl, RowIn.below HU0.out HRE.out.2.1, RowIn.below HS0.out HRE.out.2.1, ⟨.inl ⟨rfl, rfl⟩, .inl ⟨rfl, rfl⟩⟩, .inl ⟨130, HR.out, by decide, rfl⟩⟩
      · have gg : decide ((16 : Int) < (v.size : Int) - la.length - 1) = false := decide_eq_false (by have := HVS.out; omega)
        have HUC2 : Hid (userC ⟨nm, rt, wb, sl, qu, us⟩ v = if nameC (v.extract 0 la.length) = false then .error 131 else if (secretC us (v.extract 0 la.length)).isSome then .error 5 else if 8 ≤ us.length then .error 3 else .ok ⟨nm, rt, wb, sl, qu, us ++ [(v.extract 0 la.length, v.extract (la.length + 1) v.size)]⟩) := Lib.hid (by
          rw [HUC.out]
          simp only [HCUT.out]
          rw [if_neg (fun h => by
            rcases h with h | h | h
            · cases h
            · exact e0 (by rw [h]; rfl)
            · exact e1 h), HNA.out, HNB.out])
        clear HUC HCUT
        cases hnm : nameC (v.extract 0 la.length) with
        | false =>
          have HR : Hid ((userC ⟨nm, rt, wb, sl, qu, us⟩ v).map (fun m => (m, seen)) = .error 131) := Lib.hid (by rw [HUC2.out, if_pos hnm]; rfl)
          have hbW := Below.refl W2.heap.size W2
          go_enter Tryz.func54, Tryz.ntmps54
          go_wp2_with fail
          try rw [hW2]
          refine HF.out.mono ?_
          rintro e w2 ⟨rfl, h2⟩
          replace h2 := h2.symm
          subst h2
          clear hW2
          go_wp2_with fail
          refine (HRN.out _).mono ?_
          rw [hnm]
          rintro e w3 ⟨rfl, h3⟩
          replace h3 := h3.symm
          subst h3
          have hn1' := block_below HN1.out hbW
          have hn2' := block_below HN2.out hbW
          have HRE := Lib.hid (ret_seven (w := w) (b := w.heap.size + 1) (Nat.le_succ _) (below_from HBB.out hbW) hn2' nm rt wb sl qu (.slice Au us.length cu) (.slice As seen.length cs))
          obtain ⟨⟨x0, x1, x2, x3, x4, x5, x6⟩, _⟩ := cells_seven hn1'
          obtain ⟨⟨y0, y1, y2, y3, y4, y5, y6⟩, ⟨f0, f1, f2, f3, f4, f5, f6⟩⟩ := cells_seven hn2'
          clear hn1' hn2'
          go_wp2_with fail
          exact bodyPost_ret (res_cell_tmp rfl _ _ _ rfl HRE.out.1) rfl ⟨HRE.out.2.1, ⟨⟨nm, rt, wb, sl, qu, us⟩, .slice Au us.length cu, .slice As seen.length cs, seen⟩, 131, rfl, RowIn.below HU0.out HRE.out.2.1, RowIn.below HS0.out HRE.out.2.1, ⟨.inl ⟨rfl, rfl⟩, .inl ⟨rfl, rfl⟩⟩, .inl ⟨131, HR.out, by decide, rfl⟩⟩
        | true =>
          have HUC3 := Lib.hid (HUC2.out.trans (if_neg (by rw [hnm]; decide)))
          clear HUC2
          go_enter Tryz.func54, Tryz.ntmps54
          go_wp2_with fail
          try rw [hW2]
          refine HF.out.mono ?_
          rintro e w2 ⟨rfl, h2⟩
          replace h2 := h2.symm
          subst h2
          clear hW2
          go_wp2_with fail
          refine (HRN.out _).mono ?_
          rw [hnm]
          rintro e w3 ⟨rfl, h3⟩
          replace h3 := h3.symm
          subst h3
          clear hnm
          go_wp2_with fail
          go_loopw [7] (fun i wr => ∃ k : Nat, k ≤ us.length ∧ i = .int .i64 k ∧ Below W2.heap.size W2 wr ∧ ∀ j (hj : j < us.length), j < k → us[j].1 ≠ v.extract 0 la.length) (fun i _ => us.length - (intOf i).toNat)
          case atStart => exact ⟨0, by omega, rfl, Below.refl _ _, fun j hj h => by omega⟩
          case round =>
            obtain ⟨k, hk, rfl, hbw, hno⟩ := hrel
            obtain ⟨wk, rfl⟩ : ∃ W, W = wr := ⟨wr, rfl⟩
            have HNO := Lib.hid hno
            have HB := Lib.hid hbw
            have z5 := (cells_seven (block_below HN1.out hbw)).1.2.2.2.2.2.1
            clear hno
            by_cases hlt : k < us.length
            · obtain ⟨A2, c2, e2, _, hcell⟩ := (UsersIn.at_ HU.out)
              injection e2 with e2 _ e3
              subst e2 e3
              obtain ⟨b, off, rfl, u1, u2⟩ := hcell k hlt
              replace u1 := cell_below hbw u1
              obtain ⟨x, hx⟩ : ∃ x, x = us[k].1 := ⟨_, rfl⟩
              rw [← hx] at u1
              have HX := Lib.hid hx
              have HBN := Lib.hid (fun n => below_drewN hbw n)
              clear hcell hx u2
              by_cases ex : x = v.extract 0 la.length
              · have be := eq_beq ex
                have HR : Hid ((userC ⟨nm, rt, wb, sl, qu, us⟩ v).map (fun m => (m, seen)) = .error 5) := Lib.hid (by rw [HUC3.out, if_pos (rsecret_at hlt (HX.out.symm.trans ex))]; rfl)
                clear ex
                have hn1' := block_below HN1.out HB.out
                have hn2' := block_below HN2.out HB.out
                have HREN := Lib.hid (fun n => ret_seven (w := w) (W := wk.drewN n) (b := w.heap.size + 1) (Nat.le_succ _) (below_drewN (below_from HBB.out HB.out) n) (show (wk.drewN n).heap[w.heap.size + 1]? = _ from hn2') nm rt wb sl qu (.slice (some ⟨b, off, none⟩) us.length cu) (.slice As seen.length cs))
                obtain ⟨⟨x0, x1, x2, x3, x4, x5, x6⟩, _⟩ := cells_seven hn1'
                obtain ⟨⟨y0, y1, y2, y3, y4, y5, y6⟩, ⟨f0, f1, f2, f3, f4, f5, f6⟩⟩ := cells_seven hn2'
                clear hn1' hn2' z5
                go_wp2_with fail
                go_quiet (fail)
                go_wp2_with fail
                exact bodyPost_ret (res_cell_tmp rfl _ _ _ rfl (HREN.out _).1) rfl ⟨(HREN.out _).2.1, ⟨⟨nm, rt, wb, sl, qu, us⟩, .slice (some ⟨b, off, none⟩) us.length cu, .slice As seen.length cs, seen⟩, 5, rfl, RowIn.below HU0.out (HREN.out _).2.1, RowIn.below HS0.out (HREN.out _).2.1, ⟨.inl ⟨rfl, rfl⟩, .inl ⟨rfl, rfl⟩⟩, .inl ⟨5, HR.out, by decide, rfl⟩⟩
              · have be := ne_beq ex
                have HE := Lib.hid ex
                clear ex
                go_wp2_with fail
                go_quiet (fail)
                go_wp2_with fail
                go_roundw
                case rel => exact ⟨k + 1, by omega, by go_num, HBN.out _, fun j hj h => by
                  by_cases e : j = k
                  · subst e; rw [← HX.out]; exact HE.out
                  · exact HNO.out j hj (by omega)⟩
                case measure => simp [intOf]; omega
            · have HUC4 := Lib.hid (HUC3.out.trans (if_neg (by rw [rsecret_no (fun k hk => HNO.out k hk (by omega))]; decide)))
              obtain rfl : k = us.length := by omega
              by_cases h8 : 8 ≤ us.length
              · have b8 : (8 : Int) ≤ us.length := by omega
                have HR : Hid ((userC ⟨nm, rt, wb, sl, qu, us⟩ v).map (fun m => (m, seen)) = .error 3) := Lib.hid (by rw [HUC4.out, if_pos h8]; rfl)
                have hbW := HB.out
                clear h8 z5
                have hn1' := block_below HN1.out hbW
                have hn2' := block_below HN2.out hbW
                have HRE := Lib.hid (ret_seven (w := w) (b := w.heap.size + 1) (Nat.le_succ _) (below_from HBB.out hbW) hn2' nm rt wb sl qu (.slice Au us.length cu) (.slice As seen.length cs))
                obtain ⟨⟨x0, x1, x2, x3, x4, x5, x6⟩, _⟩ := cells_seven hn1'
                obtain ⟨⟨y0, y1, y2, y3, y4, y5, y6⟩, ⟨f0, f1, f2, f3, f4, f5, f6⟩⟩ := cells_seven hn2'
                clear hn1' hn2'
                go_wp2_with fail
                exact bodyPost_ret (res_cell_tmp rfl _ _ _ rfl HRE.out.1) rfl ⟨HRE.out.2.1, ⟨⟨nm, rt, wb, sl, qu, us⟩, .slice Au us.length cu, .slice As seen.length cs, seen⟩, 3, rfl, RowIn.below HU0.out HRE.out.2.1, RowIn.below HS0.out HRE.out.2.1, ⟨.inl ⟨rfl, rfl⟩, .inl ⟨rfl, rfl⟩⟩, .inl ⟨3, HR.out, by decide, rfl⟩⟩
              · have b8 : ¬ (8 : Int) ≤ us.length := by omega
                have HR : Hid ((userC ⟨nm, rt, wb, sl, qu, us⟩ v).map (fun m => (m, seen)) = .ok (⟨nm, rt, wb, sl, qu, us ++ [(v.extract 0 la.length, v.extract (la.length + 1) v.size)]⟩, seen)) := Lib.hid (by rw [HUC4.out, if_neg h8]; rfl)
                have HBW := HB
                obtain ⟨⟨x0, x1, x2, x3, x4, x5, x6⟩, _⟩ := cells_seven (block_below HN1.out HB.out)
                obtain ⟨j0, hj0, hjz0, hjz1, hjz2⟩ := info_parts infoRUser
                have HUK := Lib.hid (RowIn.below HU.out HB.out)
                have h1v : la.length + 1 ≤ v.size := by have := HVS.out; omega
                have hun : us.length ≤ 8 := hn
                have x5' := cell_below (below_one wk (.cells #[] 83)) x5
                have hw1 : IntKind.i64.wrap ((la.length : Int) + 1) = (la.length : Int) + 1 := IntWalk.i64_in _ (by omega)
                have hw2 : ((la.length : Int) + 1).toNat = la.length + 1 := by omega
                have hi1 : (la.length : Int) + 1 ≤ (v.size : Int) := by omega
                have hi0 : (0 : Int) ≤ (la.length : Int) + 1 := by omega
                clear h8 z5
                go_wp2_with (at_builtin; go_loud (refine wpList_clone_row rfl (.tmp 58) (.tmp 60) 42 rfl 83 j0 (.agg #[.string ⟨#[]⟩, .string ⟨#[]⟩]) 2 32 Tryz.underlying42 hj0 hjz0 hjz1 hjz2 rfl (by decide) (.slice Au us.length cu) us.length (usC us) (by simp [Act.eval, Act.put]) (by simp [Act.eval, Act.put]) HUK.out (usC_len us) (usC_one us) (by unfold maxLen; omega) (by omega) ?_; intro v5 w5 hown5 hb5; obtain ⟨⟨z0, z1, z2, z3, z4, z5, z6⟩, ⟨k0, k1, k2, k3, k4, k5, k6⟩⟩ := cells_seven (block_below (block_below HN1.out HB.out) hb5); have HB5 := Lib.hid hb5; have HO5 := Lib.hid hown5; clear hown5 hb5))
                have hbD : Below w5.heap.size w5 w5.drew := (Below.refl _ _).drew
                have hb6 := below_one w5.drew (.cells #[.string (v.extract 0 la.length), .string (v.extract (la.length + 1) v.size)] 83)
                have hb56 := below_from hbD hb6
                have HO6 := Lib.hid (own_stay HO5.out hb56)
                have HSRC := Lib.hid (src_two w5.drew (.string (v.extract 0 la.length)) (.string (v.extract (la.length + 1) v.size)) 83)
                have HSZ := Lib.hid (Nat.le_trans HB5.out.size hb56.size)
                have HB6 := Lib.hid (below_from HB5.out hb56)
                have hm6 := block_below (block_below HN1.out HB.out) HB6.out
                have hr6 := block_below (block_below HN2.out HB.out) HB6.out
                have HM6 := Lib.hid hm6
                have HR6 := Lib.hid hr6
                clear hbD hb6 hb56 hm6 hr6 z0 z1 z2 z3 z4 z5 z6 k0 k1 k2 k3 k4 k5 k6 x0 x1 x2 x3 x4 x5 x6 x5'
                go_region_law (first | (refine step_append_own rfl (.tmp 62) (.tmp 71) 42 rfl wk.heap.size 83 j0 (.agg #[.string ⟨#[]⟩, .string ⟨#[]⟩]) 2 32 Tryz.underlying42 hj0 hjz0 hjz1 hjz2 rfl (by decide) v5 us.length (usC us) (by simp [Act.eval, Act.put]) HO6.out ⟨w5.heap.size, 0, none⟩ 1 1 [.string (v.extract 0 la.length), .string (v.extract (la.length + 1) v.size)] (by simp [Act.eval, Act.put]) rfl HSRC.out (by simp [Value.oneCell']) (by unfold maxLen; omega) (by omega) HSZ.out ?_; intro v7 w7 hown7 hg7; obtain ⟨A7, c7, rfl⟩ := own_slice hown7; have hm7 := (OffRow.of HO6.out).block HM6.out (by decide) hg7; have hr7 := (OffRow.of HO6.out).block HR6.out (by decide) hg7; have hb7 := HB6.out.grown hg7 HSZ.out (fun j hj => (HO6.out.lt j hj).1); have HMM := Lib.hid hm7; have HRR := Lib.hid hr7; have HB7 := Lib.hid hb7; have HO7 := Lib.hid hown7; have q5 := (cells_seven hm7).1.2.2.2.2.2.1; have g5 := (cells_seven hm7).2.2.2.2.2.2.1; have HBW7 := Lib.hid (below_from HBB.out (below_from HB.out hb7)); have hfa : FrB (fun k => k = w.heap.size) w7 (w7.setCell ⟨w.heap.size, 5, none⟩ (.slice A7 (us.length + 1) c7)) := FrB.set _ rfl; have hwsz := HB.out.size; have hm8 : (w7.setCell ⟨w.heap.size, 5, none⟩ (.slice A7 (us.length + 1) c7)).heap[w.heap.size]? = some (Obj.cells #[.string nm, .string rt, .bool wb, .int .i64 sl, .int .i64 qu, .slice A7 (us.length + 1) c7, .slice As seen.length cs] 45 (0, 0)) := (by (rw [heap_setCell_same w7 w.heap.size 5 _ _ _ hm7]; rfl)); have hr8 := hfa.at_ hr7 (by omega); have ho8 := hfa.own hown7 (fun b hb e => (by (have := (hown7.lt b hb).1; omega))); have hb8 : Below w.heap.size w (w7.setCell ⟨w.heap.size, 5, none⟩ (.slice A7 (us.length + 1) c7)) := HBW7.out.setCell (p := ⟨w.heap.size, 5, none⟩) (Nat.le_refl _) _; have HRE := Lib.hid (ret_seven (w := w) (b := w.heap.size + 1) (Nat.le_succ _) hb8 hr8 nm rt wb sl qu (.slice A7 (us.length + 1) c7) (.slice As seen.length cs)); have HO9 := Lib.hid (HRE.out.2.2.own ho8 (fun b hb e => (by (have := (hown7.lt b hb).1; omega)))); obtain ⟨⟨x0, x1, x2, x3, x4, x5, x6⟩, _⟩ := cells_seven hm8; obtain ⟨⟨y0, y1, y2, y3, y4, y5, y6⟩, ⟨f0, f1, f2, f3, f4, f5, f6⟩⟩ := cells_seven hr8; have HNW : Hid (∀ b, (Value.slice A7 (us.length + 1) c7).ownBlock = some b → w.heap.size ≤ b) := Lib.hid (fun b hb => (by (have := (hown7.lt b hb).1; omega))); clear hown7 hg7 hm7 hr7 hb7 hfa hm8 hr8 ho8 hb8))
                all_goals go_wp2_with fail
                all_goals (exact bodyPost_ret (res_cell_tmp rfl _ _ _ rfl HRE.out.1) rfl ⟨HRE.out.2.1, ⟨⟨nm, rt, wb, sl, qu, us ++ [(v.extract 0 la.length, v.extract (la.length + 1) v.size)]⟩, .slice A7 (us.length + 1) c7, .slice As seen.length cs, seen⟩, 0, rfl, (by
                  show RowIn _ _ (us ++ [(v.extract 0 la.length, v.extract (la.length + 1) v.size)]).length (usC (us ++ [(v.extract 0 la.length, v.extract (la.length + 1) v.size)]))
                  rw [usC_snoc, List.length_append, List.length_singleton]
                  exact RowIn.of_own HO9.out (by decide)), RowIn.below HS0.out HRE.out.2.1, ⟨.inr (fun b hb => HNW.out b hb), .inl ⟨rfl, rfl⟩⟩, .inr ⟨HR.out, rfl⟩⟩)
end Go.Proofs.YtddnfooachibiaaGreatDoor
