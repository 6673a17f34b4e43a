/-
  Scripts as arguments; what a commit and a forgetting leave of an elder version.
-/
import Derived.Test.YtkplkienbgoofaaDoorTreeAllW
import Derived.Test.YtkplkienbgoofaaDoorForgetW
set_option linter.unusedVariables false
set_option linter.unusedSimpArgs false
namespace Go.Proofs.YtkplkienbgoofaaDoor
open Go.RowKit Go.Maps Go.WideMaps Go.WideAt
open Go.Proofs.YtkplkienbgoofaaDoorW.PrintWords (Kd ReadsRow)
def kOpT : Kd OpT := Kd.pair (Kd.int .i64) (Kd.pair (Kd.slice 42 kChg) (Kd.slice 3 (Kd.int .i64)))
def OpArg (o : OpT) : Prop := (Lit.int .i64 o.1).wf = true ∧ (∀ x ∈ o.2.1, ChgArg x) ∧ (∀ x ∈ o.2.2, (Lit.int .i64 x).wf = true)
theorem opTRow_of {w : World} {A : Option Addr} {l : List OpT} (h : Kd.C kOpT w A l.length l) : OpTRow w A l ∧ (∀ o ∈ l, o.2.1.length ≤ 9223372036854775807 ∧ o.2.2.length ≤ 9223372036854775807 ∧ ∀ x ∈ o.2.1, x.2.1.length ≤ 9223372036854775807) := by
  have hall : ∀ k (hk : k < l.length), ∃ ad A' c' A2 c2, A = some ad ∧ l[k].2.1.length ≤ c' ∧ Kd.C kChg w A' l[k].2.1.length l[k].2.1 ∧ l[k].2.2.length ≤ c2 ∧ Kd.C (Kd.int .i64) w A2 l[k].2.2.length l[k].2.2 ∧ ∀ i u, ([.int .i64 l[k].1, .slice A' l[k].2.1.length c', .slice A2 l[k].2.2.length c2] : List Value)[i]? = some u → w.cell? (ad.add (k * 3 + i)) = some u := by
    intro k hk
    obtain ⟨ad, e, hc⟩ := h.2.2 (by omega)
    obtain ⟨c, _, ⟨c0, c1, rfl, h0, ⟨c2, c3, rfl, ⟨A', c', rfl, hle, hr⟩, ⟨A2, c2', rfl, hle2, hr2⟩⟩⟩, hcell⟩ := hc k _ (List.getElem?_eq_getElem hk)
    obtain rfl : c0 = [.int .i64 l[k].1] := h0
    exact ⟨ad, A', c', A2, c2', e, hle, hr, hle2, hr2, hcell⟩
  refine ⟨fun k hk => ?_, fun o ho => ?_⟩
  · obtain ⟨ad0, _, _, _, _, e0, _, _, _, _, hcell0⟩ := hall 0 (by omega)
    obtain ⟨ad, A', c', A2, c2, e, hle, hr, hle2, hr2, hcell⟩ := hall k hk
    obtain ⟨b, off, spot⟩ := ad
    have hs : spot = none := by
      have h1 := hcell0 0 _ rfl
      have e1 : ad0 = ⟨b, off, spot⟩ := Option.some.inj (e0.symm.trans e)
      rw [e1] at h1
      have := World.cell?_spot h1
      simpa [Addr.add] using this
    subst hs
    have g0 := hcell 0 _ rfl
    have g1 := hcell 1 _ rfl
    have g2 := hcell 2 _ rfl
    rw [Addr.add_lit] at g0 g1 g2
    exact ⟨b, off, A', c', A2, c2, e, g0, by rw [Nat.add_assoc]; exact g1, by rw [Nat.add_assoc]; exact g2, hle, chgRow_of hr, hle2, intRow_of hr2⟩
  · obtain ⟨k, hk, rfl⟩ := List.getElem_of_mem ho
    obtain ⟨ad, A', c', A2, c2, e, hle, hr, hle2, hr2, hcell⟩ := hall k hk
    exact ⟨hr.2.1, hr2.2.1, chgLen_of hr⟩
/-- An elder version shows what it showed. -/
structure Shows (now : Nat) (F : List FileS) (now' : Nat) (F' : List FileS) (v : Int) : Prop where
  read : ∀ p, readT now' F' v p = readT now F v p
  list : ∀ root, listT now' F' v root = listT now F v root
theorem Shows.refl (now : Nat) (F : List FileS) (v : Int) : Shows now F now F v := ⟨fun _ => rfl, fun _ => rfl⟩
theorem Shows.trans {n1 n2 n3 : Nat} {F1 F2 F3 : List FileS} {v : Int} (h : Shows n1 F1 n2 F2 v) (h' : Shows n2 F2 n3 F3 v) : Shows n1 F1 n3 F3 v := ⟨fun p => (h'.read p).trans (h.read p), fun r => (h'.list r).trans (h.list r)⟩
theorem shows_puts {now B : Nat} {F F' : List FileS} {l : List ChgD} (h : Puts (now + 1) B F l F') (ho : (F.map FileS.path).Nodup) {v : Int} (h0 : 0 ≤ v) (h1 : v ≤ now) : Shows now F (now + 1) F' v := by
  refine ⟨fun p => read_elder h (by omega) h0 h1 (by omega) p, fun root => list_vis ho (puts_size h ho).2 (fun p => ?_) h0 h1 h0 (by omega) root⟩
  unfold thereB
  rw [puts_old h (by omega)]
theorem shows_forgot {now : Nat} {keep : List Int} {F F' : List FileS} (h : Forgot now keep F F') (ho : (F.map FileS.path).Nodup) (hr : RiseF now F) {v : Int} (hv : v ∈ keep ∨ v = now) (h0 : 0 ≤ v) (h1 : v ≤ now) : Shows now F now F' v :=
  ⟨fun p => h.read ho hr hv p, fun root => h.list ho hr hv h0 h1 root⟩
theorem infoInt : (Tryd.prog.info? 3).map (fun i => (i.zero, i.size, i.bytes)) = some (some (.int .i64 0), 1, 8) := by kernel_rfl
theorem texts_row {w : World} {base' c : Nat} {A : Option Addr} {L : List ByteArray} (ho : w.ownsRow base' 9 1 (.slice A L.length c) L.length (strs L)) : TextRow w A L := by
  obtain ⟨A', c', e1, _, hr⟩ := own_row ho
  injection e1 with e1
  rw [e1]
  exact hr
end Go.Proofs.YtkplkienbgoofaaDoor
