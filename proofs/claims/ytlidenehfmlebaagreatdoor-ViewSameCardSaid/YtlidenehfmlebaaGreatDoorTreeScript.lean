/-
  Scripts as arguments; what a commit and a forgetting leave of an elder version.
-/
import Derived.Test.YtlidenehfmlebaaGreatDoorTreeAllW
import Derived.Test.YtlidenehfmlebaaGreatDoorForgetW
set_option linter.unusedVariables false
set_option linter.unusedSimpArgs false
namespace Go.Proofs.YtlidenehfmlebaaGreatDoor
open Go.RowKit Go.Maps Go.WideMaps Go.WideAt
open Go.Proofs.YtlidenehfmlebaaGreatDoorW.PrintWords (Kd ReadsRow)
def kOpT : Kd OpT := Kd.pair (Kd.int .i64) (Kd.pair (Kd.slice 66 kChg) (Kd.slice 3 (Kd.int .i64)))
def OpArg (o : OpT) : Prop := (Lit.int .i64 o.1).wf = true ∧ (∀ x ∈ o.2.1, ChgArg x) ∧ (∀ x ∈ o.2.2, (Lit.int .i64 x).wf = true)
theorem opTRow_of {w : World} {A : Option Addr} {l : List OpT} (h : Kd.C kOpT w A l.length l) : OpTRow w A l ∧ (∀ o ∈ l, o.2.1.length ≤ 9223372036854775807 ∧ o.2.2.length ≤ 9223372036854775807 ∧ ∀ x ∈ o.2.1, x.2.1.length ≤ 9223372036854775807) := by
  have hall : ∀ k (hk : k < l.length), ∃ ad A' c' A2 c2, A = some ad ∧ l[k].2.1.length ≤ c' ∧ Kd.C kChg w A' l[k].2.1.length l[k].2.1 ∧ l[k].2.2.length ≤ c2 ∧ Kd.C (Kd.int .i64) w A2 l[k].2.2.length l[k].2.2 ∧ ∀ i u, ([.int .i64 l[k].1, .slice A' l[k].2.1.length c', .slice A2 l[k].2.2.length c2] : List Value)[i]? = some u → w.cell? (ad.add (k * 3 + i)) = some u := by
    intro k hk
    obtain ⟨ad, e, hc⟩ := h.2.2 (by omega)
    obtain ⟨c, _, ⟨c0, c1, rfl, h0, ⟨c2, c3, rfl, ⟨A', c', rfl, hle, hr⟩, ⟨A2, c2', rfl, hle2, hr2⟩⟩⟩, hcell⟩ := hc k _ (List.getElem?_eq_getElem hk)
    obtain rfl : c0 = [.int .i64 l[k].1] := h0
    exact ⟨ad, A', c', A2, c2', e, hle, hr, hle2, hr2, hcell⟩
  refine ⟨fun k hk => ?_, fun o ho => ?_⟩
  · obtain ⟨ad0, _, _, _, _, e0, _, _, _, _, hcell0⟩ := hall 0 (by omega)
    obtain ⟨ad, A', c', A2, c2, e, hle, hr, hle2, hr2, hcell⟩ := hall k hk
    obtain ⟨b, off, spot⟩ := ad
    have hs : spot = none := by
      have h1 := hcell0 0 _ rfl
      have e1 : ad0 = ⟨b, off, spot⟩ := Option.some.inj (e0.symm.trans e)
      rw [e1] at h1
      have := World.cell?_spot h1
      simpa [Addr.add] using this
    subst hs
    have g0 := hcell 0 _ rfl
    have g1 := hcell 1 _ rfl
    have g2 := hcell 2 _ rfl
    rw [Addr.add_lit] at g0 g1 g2
    exact ⟨b, off, A', c', A2, c2, e, g0, by rw [Nat.add_assoc]; exact g1, by rw [Nat.add_assoc]; exact g2, hle, chgRow_of hr, hle2, intRow_of hr2⟩
  · obtain ⟨k, hk, rfl⟩ := List.getElem_of_mem ho
    obtain ⟨ad, A', c', A2, c2, e, hle, hr, hle2, hr2, hcell⟩ := hall k hk
    exact ⟨hr.2.1, hr2.2.1, chgLen_of hr⟩
/-- An elder version shows what it showed. -/
structure Shows (now : Nat) (F : List FileS) (now' : Nat) (F' : List FileS) (v : Int) : Prop where
  read : ∀ p, readT now' F' v p = readT now F v p
  list : ∀ root, listT now' F' v root = listT now F v root
theorem Shows.refl (now : Nat) (F : List FileS) (v : Int) : Shows now F now F v := ⟨fun _ => rfl, fun _ => rfl⟩
theorem Shows.trans {n1 n2 n3 : Nat} {F1 F2 F3 : List FileS} {v : Int} (h : Shows n1 F1 n2 F2 v) (h' : Shows n2 F2 n3 F3 v) : Shows n1 F1 n3 F3 v := ⟨fun p => (h'.read p).trans (h.read p), fun r => (h'.list r).trans (h.list r)⟩
theorem shows_puts {now B : Nat} {F F' : List FileS} {l : List ChgD} (h : Puts (now + 1) B F l F') (ho : (F.map FileS.path).Nodup) {v : Int} (h0 : 0 ≤ v) (h1 : v ≤ now) : Shows now F (now + 1) F' v := by
  refine ⟨fun p => read_elder h (by omega) h0 h1 (by omega) p, fun root => list_vis ho (puts_size h ho).2 (fun p => ?_) h0 h1 h0 (by omega) root⟩
  unfold thereB
  rw [puts_old h (by omega)]
theorem shows_forgot {now : Nat} {keep : List Int} {F F' : List FileS} (h : Forgot now keep F F') (ho : (F.map FileS.path).Nodup) (hr : RiseF now F) {v : Int} (hv : v ∈ keep ∨ v = now) (h0 : 0 ≤ v) (h1 : v ≤ now) : Shows now F now F' v :=
  ⟨fun p => h.read ho hr hv p, fun root => h.list ho hr hv h0 h1 root⟩
theorem commit_shows {g b now : Nat} {l : List ChgD} {F : List FileS} {base : Nat} {w : World} {e : Ending} {w' : World} (hp : CommitPost g b now l F base w e w') (ht : TreeAt w base g b now F) (hr : RiseF now F) (hbase : base ≤ w.heap.size) :
    ∃ u1 u2 now' F', e = .returned (.tuple #[u1, u2]) ∧ Mid g b now l.length F base w w' now' F' ∧ ∀ v, 0 ≤ v → v ≤ (now : Int) → Shows now F now' F' v := by
  rcases hp with ⟨_, t, v, rfl, _, h1, h2⟩ | ⟨hc, F', rfl, h1, h2, h3, h4⟩
  · exact ⟨_, _, now, F, rfl, ⟨h1, h2.mono hbase, by omega, by omega, hr, TFrame.of_below h2⟩, fun v _ _ => Shows.refl _ _ _⟩
  · exact ⟨_, _, now + 1, F', rfl, ⟨h2, h3, Nat.le_of_eq (puts_size h1 ht.once).1, by omega, (rise_puts h1 hr (chkT_once hc).1).1, h4⟩, fun v a b => shows_puts h1 ht.once a b⟩
theorem infoInt : (Tryz.prog.info? 3).map (fun i => (i.zero, i.size, i.bytes)) = some (some (.int .i64 0), 1, 8) := by kernel_rfl
theorem wpList_append_ints {w3 : World} {ops : Array Oper} {rest : List Oper} {o : Oper} {a : Act} {Q : Exit → Act → World → Prop} (hgd : o.guard = none) (s x : Operand)
    (ho : o.op = .call { callee := .builtin .append, args := #[s, x], argTypes := #[32, 32] })
    (A : Option Addr) (c : Nat) (l : List Int) (hs : a.eval s = .slice (some ⟨w3.heap.size, 0, none⟩) 0 0) (hx : a.eval x = .slice A l.length c) (hr : IntRow w3 A l) (hl : l.length ≤ 1000)
    (h : ∀ v' w', w'.ownsRow w3.heap.size 3 1 v' l.length (i64V l) → Below w3.heap.size w3 w' → wpList Tryz.prog ops Q rest (a.put o.dst v') w') : wpList Tryz.prog ops Q (o :: rest) a (w3.alloc (.cells #[] 3)) := by
  obtain ⟨i0, hi0, hz0, hz1, hz2⟩ := info_parts infoInt
  have hown0 : (w3.alloc (.cells #[] 3)).ownsRow w3.heap.size 3 1 (.slice (some ⟨w3.heap.size, 0, none⟩) 0 0) 0 [] := World.ownsRow_lit w3 #[] 0 (Nat.le_refl _) (by simp) (by simp)
  have hb1 := below_one w3 (.cells #[] 3)
  by_cases hn : 0 < l.length
  · obtain ⟨ad, rfl, hc⟩ := hr hn
    refine wpList_append_own _ hgd s x 32 ho w3.heap.size 3 i0 (.int .i64 0) 1 8 Tryz.underlying32 hi0 hz0 hz1 hz2 rfl (by decide) (.slice (some ⟨w3.heap.size, 0, none⟩) 0 0) 0 [] hs hown0 ad l.length c (i64V l) hx (by simp [i64V]) (fun j u hj => ?_) (i64V_one l) (by unfold maxLen; omega) (by omega) hb1.size ?_
    · have hjl : j < l.length := by
        have := (List.getElem?_eq_some_iff.1 hj).1
        simpa [i64V] using this
      have e : u = .int .i64 l[j] := by
        simp only [i64V, List.getElem?_map, List.getElem?_eq_getElem hjl, Option.map_some, Option.some.injEq] at hj
        exact hj.symm
      rw [e]
      exact cell_below hb1 (hc j hjl)
    · intro v' w' ho' hg' _
      refine h v' w' (by simpa using ho') (hb1.grown hg' hb1.size (fun k hk => ?_))
      have : w3.heap.size = k := by simpa [Value.ownBlock] using hk
      omega
  · have h0 : l = [] := List.length_eq_zero_iff.1 (by omega)
    subst h0
    exact wpList_append_nothing hgd s x 32 ho 3 i0 Tryz.underlying32 hi0 (some ⟨w3.heap.size, 0, none⟩) 0 0 hs (Nat.le_refl _) A c hx (h _ _ hown0 hb1)
/-- Texts that lie in a row of their own stay while the tree is written. -/
theorem texts_stay {w w' : World} {base b g now base' c : Nat} {F : List FileS} {A : Option Addr} {L : List ByteArray} (ho : w.ownsRow base' 9 1 (.slice A L.length c) L.length (strs L)) (hf : TFrame b w w') (ht : TreeAt w base g b now F) : w'.ownsRow base' 9 1 (.slice A L.length c) L.length (strs L) :=
  hf.own ho ⟨by decide, by decide⟩ ht.noCells
theorem texts_map {w w' : World} {base b g now base' c : Nat} {F : List FileS} {A : Option Addr} {L : List ByteArray} (ho : w.ownsRow base' 9 1 (.slice A L.length c) L.length (strs L)) (hg : w.grownBy w' (some b)) (ht : TreeAt w base g b now F) : w'.ownsRow base' 9 1 (.slice A L.length c) L.length (strs L) := by
  obtain ⟨es, ck, hmb⟩ := ht.map.isMap
  exact own_mapped ho hmb hg
theorem texts_row {w : World} {base' c : Nat} {A : Option Addr} {L : List ByteArray} (ho : w.ownsRow base' 9 1 (.slice A L.length c) L.length (strs L)) : TextRow w A L := by
  obtain ⟨A', c', e1, _, hr⟩ := own_row ho
  injection e1 with e1
  rw [e1]
  exact hr
end Go.Proofs.YtlidenehfmlebaaGreatDoor
