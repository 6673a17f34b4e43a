/-
  The reference's Put.
-/
import Derived.Test.YtaaeobdihfbjfaaDoorRefLk2
import Derived.Test.YtaaeobdihfbjfaaDoorClone
set_option linter.unusedVariables false
set_option linter.unusedSimpArgs false
namespace Go.Proofs.YtaaeobdihfbjfaaDoor
open Go.RowKit
def putErr (q : List RRow) (who : Int) (ps : List ByteArray) : Int :=
  if 0 ≤ findR q who then 5 else if 64 ≤ q.length then 3 else if 16 < ps.length then 2 else (setGo 0 [] ps).err.num
def putNext (q : List RRow) (who : Int) (ps : List ByteArray) (v : Value) : List RRow := if putErr q who ps = 0 then q ++ [⟨who, v, (setGo 0 [] ps).outs⟩] else q
def PutPost (q : List RRow) (who : Int) (ps : List ByteArray) (base : Nat) (w : World) (e : Ending) (w' : World) : Prop :=
  ∃ v v', e = .returned (.tuple #[v', .int .i64 (putErr q who ps)]) ∧ AsksAt w' base v' (putNext q who ps v) ∧ Below w.heap.size w w'
theorem findR_cases (q : List RRow) (who : Int) : findR q who = -1 ∨ ∃ k : Nat, k < q.length ∧ findR q who = k := by
  unfold findR firstB
  cases h : (List.range q.length).find? (fun k => (q.getD k zR).who == who) with
  | none => exact .inl rfl
  | some k => exact .inr ⟨k, List.mem_range.1 (List.mem_of_find?_eq_some h), rfl⟩
theorem put_refused {q : List RRow} {who : Int} {ps : List ByteArray} {base : Nat} {w w' : World} {v : Value} {n : Int} (he : putErr q who ps = n) (hn : n ≠ 0) (hr : AsksAt w base v q) (hb : Below w.heap.size w w') : PutPost q who ps base w (.returned (.tuple #[v, .int .i64 n])) w' := by
  subst he
  exact ⟨.nilIface, v, rfl, by rw [putNext, if_neg hn]; exact hr.below hb, hb⟩
theorem src_two (w : World) (a b : Value) (t : TypeId) : ∀ j u, ([a, b] : List Value)[j]? = some u → (w.alloc (.cells #[a, b] t)).cell? ((⟨w.heap.size, 0, none⟩ : Addr).add j) = some u := by
  intro j u hj
  rw [Addr.add_lit, World.cell?_alloc_at _ _ _ _ rfl]
  match j, hj with
  | 0, hj => simpa using hj
  | 1, hj => simpa using hj
theorem infoRAsk : (Tryd.prog.info? 48).map (fun i => (i.zero, i.size, i.bytes)) = some (some (.agg #[.int .i64 0, .slice none 0 0]), 2, 32) := by kernel_rfl
set_option maxRecDepth 100000 in
set_option maxHeartbeats 4000000 in
theorem rput_any (v : Value) (who : Int) (A : Option Addr) (c : Nat) (ps : List ByteArray) (q : List RRow) (w : World) {base : Nat} (hq : q.length ≤ 1000) (hr : AsksAt w base v q) (hbase : base ≤ w.heap.size)
    (hps : ps.length ≤ 1000) (ht : TextRow w A ps) (hz : ∀ s ∈ ps, s.size ≤ 140737488351232) :
    Calls Tryd.prog 23 #[v, .agg #[.int .i64 who, .slice A ps.length c]] w (PutPost q who ps base w) := by
  have b1 := below_one w (.cells #[.int .i64 who, .slice A ps.length c] 48)
  have HR := Lib.hid hr
  obtain ⟨A0, c0, rfl, hcap, hrows⟩ := hr.form
  have HF := Lib.hid (fun W (hb : Below w.heap.size w W) => rfind_any _ who q W hq (hr.below hb))
  have HT := Lib.hid ht
  have HZ := Lib.hid hz
  clear hr hrows ht hz
  by_cases h1 : 0 ≤ findR q who
  · have HE : Hid (putErr q who ps = 5) := Lib.hid (by rw [putErr, if_pos h1])
    obtain ⟨k, hk⟩ : ∃ k : Nat, findR q who = k := ⟨(findR q who).toNat, by omega⟩
    have HKK := Lib.hid hk
    clear hk h1
    go_enter Tryd.func23, Tryd.ntmps23
    go_wp2_with fail
    refine (HF.out _ b1).mono ?_
    rw [HKK.out]
    rintro e w2 ⟨rfl, hb2⟩
    go_wp2_with fail
    go_ret2
    exact put_refused HE.out (by decide) HR.out (below_from b1 hb2)
  · have hm : findR q who = -1 := by rcases findR_cases q who with h | ⟨k, _, h⟩ <;> omega
    have HM := Lib.hid hm
    have H1 := Lib.hid h1
    clear hm h1
    by_cases h2 : 64 ≤ q.length
    · have HE : Hid (putErr q who ps = 3) := Lib.hid (by rw [putErr, if_neg H1.out, if_pos h2])
      have h2b : decide ((64 : Int) ≤ (q.length : Int)) = true := by simp; omega
      go_enter Tryd.func23, Tryd.ntmps23
      go_wp2_with fail
      refine (HF.out _ b1).mono ?_
      rw [HM.out]
      rintro e w2 ⟨rfl, hb2⟩
      go_wp2_with fail
      go_ret2
      exact put_refused HE.out (by decide) HR.out (below_from b1 hb2)
    · have h2b : decide ((64 : Int) ≤ (q.length : Int)) = false := by simp; omega
      by_cases h3 : 16 < ps.length
      · have HE : Hid (putErr q who ps = 2) := Lib.hid (by rw [putErr, if_neg H1.out, if_neg h2, if_pos h3])
        have h3b : decide ((16 : Int) < (ps.length : Int)) = true := by simp; omega
        have hc1 : (w.alloc (.cells #[.int .i64 who, .slice A ps.length c] 48)).cell? ⟨w.heap.size, 1, none⟩ = some (.slice A ps.length c) := by simp
        go_enter Tryd.func23, Tryd.ntmps23
        go_wp2_with fail
        refine (HF.out _ b1).mono ?_
        rw [HM.out]
        rintro e w2 ⟨rfl, hb2⟩
        replace hc1 := cell_below hb2 hc1
        go_wp2_with fail
        go_ret2
        exact put_refused HE.out (by decide) HR.out (below_from b1 hb2)
      · have h3b : decide ((16 : Int) < (ps.length : Int)) = false := by simp; omega
        have HE : Hid (putErr q who ps = (setGo 0 [] ps).err.num) := Lib.hid (by rw [putErr, if_neg H1.out, if_neg h2, if_neg h3])
        have hc0 : (w.alloc (.cells #[.int .i64 who, .slice A ps.length c] 48)).cell? ⟨w.heap.size, 0, none⟩ = some (.int .i64 who) := by simp
        have hc1 : (w.alloc (.cells #[.int .i64 who, .slice A ps.length c] 48)).cell? ⟨w.heap.size, 1, none⟩ = some (.slice A ps.length c) := by simp
        go_enter Tryd.func23, Tryd.ntmps23
        go_wp2_with fail
        refine (HF.out _ b1).mono ?_
        rw [HM.out]
        rintro e w2 ⟨rfl, hb2⟩
        replace hc0 := cell_below hb2 hc0
        replace hc1 := cell_below hb2 hc1
        have hb12 := below_from b1 hb2
        go_wp2_with fail
        refine (rset_any A c ps _ hps (HT.out.below hb12) HZ.out).mono ?_
        rintro e w3 ⟨hb3, v1, rfl, ho1⟩
        have hb13 := below_from hb12 hb3
        obtain ⟨r, hr⟩ : ∃ r, r = setGo 0 [] ps := ⟨_, rfl⟩
        have HRE := Lib.hid hr
        have he2 := HE.out
        rw [← hr] at he2 ho1 ⊢
        have HE2 := Lib.hid he2
        have HO := Lib.hid ho1
        clear HE he2 hr ho1
        cases r with
        | none_ i =>
          have e1 : (SetR.none_ i).err.num = 90 := rfl
          rw [e1] at HE2 ⊢
          go_wp2_with fail
          go_ret2
          exact put_refused HE2.out (by decide) HR.out hb13
        | bad i cd =>
          have e1 : (SetR.bad i cd).err.num = cd := rfl
          rw [e1] at HE2 ⊢
          rcases setGo_two ps 0 [] HRE.out.symm with rfl | rfl
          · go_wp2_with fail
            go_ret2
            exact put_refused HE2.out (by decide) HR.out hb13
          · go_wp2_with fail
            go_ret2
            exact put_refused HE2.out (by decide) HR.out hb13
        | ok xs =>
          have e1 : (SetR.ok xs).err.num = 0 := rfl
          rw [e1] at HE2 ⊢
          have hc04 := cell_below hb3 hc0
          obtain ⟨A1, c1, rfl, _, _⟩ := own_row HO.out
          obtain ⟨i0, hi0, hz0, hz1, hz2⟩ := info_parts infoRAsk
          have hone : Hid (∀ u ∈ flat2 q, u.oneCell' = true) := by
            intro u hu
            obtain ⟨a, ha, hu2⟩ := List.mem_flatMap.1 hu
            simp [RRow.cells] at hu2
            rcases hu2 with rfl | rfl
            · rfl
            · obtain ⟨A', c', e, _⟩ := own_row (HR.out.2 a ha).1
              rw [e]; rfl
          have HR3 := Lib.hid (HR.out.below hb13)
          go_wp2_with (first | (at_builtin; refine wpList_append_clone rfl (.tmp 36) (.tmp 37) 44 rfl base 48 i0 (.agg #[.int .i64 0, .slice none 0 0]) 2 32 Tryd.underlying44 hi0 hz0 hz1 hz2 rfl (by decide) (.slice A0 q.length c0) q.length (flat2 q) (by simp [Act.eval, Act.put]) (by simp [Act.eval, Act.put]) HR3.out.1 hone.out (by unfold maxLen; omega) (by omega) ?_; intro v4 w4 ho4 hb4; have hc05 := cell_below hb4 hc04; have hown5 : Hid ((w4.alloc (.cells #[.int .i64 who, .slice A1 (SetR.ok xs).outs.length c1] 48)).ownsRow w3.heap.size 48 2 v4 q.length (flat2 q)) := own_stay ho4 (below_one w4 _); have hsrc5 : Hid (∀ j u, ([.int .i64 who, .slice A1 (SetR.ok xs).outs.length c1] : List Value)[j]? = some u → (w4.alloc (.cells #[.int .i64 who, .slice A1 (SetR.ok xs).outs.length c1] 48)).cell? ((⟨w4.heap.size, 0, none⟩ : Addr).add j) = some u) := src_two w4 _ _ _; have hs4 := hb4.size) | (at_builtin; go_loud (refine wpList_append_own _ rfl (.tmp 39) (.tmp 44) 44 rfl w3.heap.size 48 i0 (.agg #[.int .i64 0, .slice none 0 0]) 2 32 Tryd.underlying44 hi0 hz0 hz1 hz2 rfl (by decide) v4 q.length (flat2 q) (by simp [Act.eval, Act.put]) hown5.out ⟨w4.heap.size, 0, none⟩ 1 1 [.int .i64 who, .slice A1 (SetR.ok xs).outs.length c1] (by simp [Act.eval, Act.put]) (by simp) hsrc5.out (by simp [Value.oneCell']) (by unfold maxLen; omega) (by omega) (by simp; omega) ?_); intro v6 w6 ho6 hg6 _))
          have hb6 : Below w3.heap.size w3 w6 := (below_from hb4 (below_one w4 _)).grown hg6 (by simp; omega) (fun k hk => (hown5.out.lt k hk).1)
          go_ret2
          have hx : setGo 0 [] ps = .ok xs := HRE.out.symm
          refine ⟨.slice A1 (SetR.ok xs).outs.length c1, v6, (by rw [HE2.out]; rfl), ⟨?_, fun a ha => ?_⟩, below_from hb13 hb6⟩
          · rw [putNext, if_pos HE2.out, hx, flat2_append, List.length_append, List.length_singleton]
            exact own_mono ho6 (Nat.le_trans hbase hb13.size)
          · rw [putNext, if_pos HE2.out, hx] at ha
            rcases List.mem_append.1 ha with ha | ha
            · exact ((HR.out.below hb13).below hb6).2 a ha
            · rw [List.mem_singleton.1 ha]
              refine ⟨own_stay (own_mono HO.out (Nat.le_trans hbase hb12.size)) hb6, fun s hs => ?_, ?_⟩
              · have := setGo_small ps 0 [] (fun s hs => by cases hs) s (by rw [hx]; exact hs)
                exact this
              · have := setGo_len ps 0 []
                rw [hx] at this
                simp [SetR.outs] at this ⊢
                omega
end Go.Proofs.YtaaeobdihfbjfaaDoor
