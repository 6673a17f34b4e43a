/-
  New; changes in memory: arguments and literals; worlds in which a row of bytes was written.
-/
import Derived.Test.YtlidenehfmlebaaGreatDoorTreeCommitW
set_option linter.unusedVariables false
set_option linter.unusedSimpArgs false
namespace Go.Proofs.YtlidenehfmlebaaGreatDoor
open Go.RowKit Go.Maps Go.WideMaps Go.WideAt
open Go.Proofs.YtlidenehfmlebaaGreatDoorW.PrintWords (Kd ReadsRow)
theorem byteRow_of {w : World} {A : Option Addr} {l : List Int} (h : Kd.C (Kd.int .u8) w A l.length l) : ByteRow w A l ∧ (A = none → l.length = 0) := by
  refine ⟨fun ad e j u hj => ?_, fun e => ?_⟩
  · have hjl : j < l.length := by
      have := (List.getElem?_eq_some_iff.1 hj).1
      simpa [u8V] using this
    obtain ⟨ad', e', hc⟩ := h.2.2 (by omega)
    rw [e] at e'
    injection e' with e'
    subst e'
    obtain ⟨c, _, hK, hcell⟩ := hc j _ (List.getElem?_eq_getElem hjl)
    obtain rfl : c = [.int .u8 l[j]] := hK
    have := hcell 0 _ rfl
    have e2 : u = .int .u8 l[j] := by
      have := hj
      simp only [u8V, List.getElem?_map, List.getElem?_eq_getElem hjl, Option.map_some, Option.some.injEq] at this
      exact this.symm
    rw [e2]
    simpa [Kd.int, Kd.scalar] using this
  · rcases Nat.eq_zero_or_pos l.length with h0 | h0
    · exact h0
    · obtain ⟨ad, e', _⟩ := h.2.2 h0
      rw [e] at e'
      cases e'
theorem chgRow_of {w : World} {A : Option Addr} {l : List ChgD} (h : Kd.C kChg w A l.length l) : ChgRow w A l := by
  intro k hk
  obtain ⟨ad, e, hc⟩ := h.2.2 (by omega)
  obtain ⟨b, off, spot⟩ := ad
  have hall : ∀ k (hk : k < l.length), ∃ A' c', l[k].2.1.length ≤ c' ∧ Kd.C (Kd.int .u8) w A' l[k].2.1.length l[k].2.1 ∧ ∀ i u, ([.string l[k].1, .slice A' l[k].2.1.length c', .bool l[k].2.2] : List Value)[i]? = some u → w.cell? ((⟨b, off, spot⟩ : Addr).add (k * 3 + i)) = some u := by
    intro k hk
    obtain ⟨c, _, ⟨c0, c1, rfl, h0, ⟨c2, c3, rfl, ⟨A', c', rfl, hle, hr⟩, h3⟩⟩, hcell⟩ := hc k _ (List.getElem?_eq_getElem hk)
    obtain rfl : c0 = [.string l[k].1] := h0
    obtain rfl : c3 = [.bool l[k].2.2] := h3
    exact ⟨A', c', hle, hr, hcell⟩
  obtain ⟨A0, c0, _, _, hcell0⟩ := hall 0 (by omega)
  have hs : spot = none := by
    have := World.cell?_spot (hcell0 0 _ rfl)
    simpa [Addr.add] using this
  subst hs
  obtain ⟨A', c', hle, hr, hcell⟩ := hall k hk
  have g0 := hcell 0 _ rfl
  have g1 := hcell 1 _ rfl
  have g2 := hcell 2 _ rfl
  rw [Addr.add_lit] at g0 g1 g2
  obtain ⟨b1, b2⟩ := byteRow_of hr
  exact ⟨b, off, A', c', e, g0, by rw [Nat.add_assoc]; exact g1, by rw [Nat.add_assoc]; exact g2, hle, b1, b2⟩
theorem chgLen_of {w : World} {A : Option Addr} {l : List ChgD} (h : Kd.C kChg w A l.length l) : ∀ x ∈ l, x.2.1.length ≤ 9223372036854775807 := fun x hx => by
  obtain ⟨k, hk, rfl⟩ := List.getElem_of_mem hx
  obtain ⟨ad, e, hc⟩ := h.2.2 (by omega)
  obtain ⟨c, _, ⟨c0, c1, rfl, h0, ⟨c2, c3, rfl, ⟨A', c', rfl, hle, hr⟩, h3⟩⟩, hcell⟩ := hc k _ (List.getElem?_eq_getElem hk)
  exact hr.2.1
/-- Bytes in a block of their own. -/
def BytesIn (w : World) (A : Option Addr) (d : List Int) : Prop := (A = none ∧ d.length = 0) ∨ ∃ m cur fz, A = some ⟨m, 0, none⟩ ∧ w.heap[m]? = some (Obj.cells cur 5 fz) ∧ ∀ (j : Nat) u, (u8V d)[j]? = some u → cur[j]? = some u
theorem bytesIn_own {w : World} {base : Nat} {A : Option Addr} {n c : Nat} {d : List Int} (h : w.ownsRow base 5 1 (.slice A n c) n (u8V d)) : BytesIn w A d := by
  rcases h.2 with ⟨h1, h2⟩ | ⟨g, cap, cur, h1, _, h2, _, _, _, h3⟩
  · injection h1 with h1
    refine .inl ⟨h1, ?_⟩
    have := h.1
    simpa [u8V, h2] using this
  · injection h1 with h1
    refine .inr ⟨g, cur, _, h1, h2, fun j u hj => ?_⟩
    rw [← h3, List.getElem?_take] at hj
    split at hj
    · simpa using hj
    · cases hj
/-- One change, laid as a literal, in the worlds of its commit. -/
theorem chg_one {W0 W : World} {b B : Nat} {p : ByteArray} {A' : Option Addr} {c' : Nat} {d : List Int} {gn : Bool} (hb : W0.heap[B]? = some (Obj.cells #[.string p, .slice A' d.length c', .bool gn] 66 (0, 0)))
    (ho : BytesIn W0 A' d) (hle : d.length ≤ c') (hm : ∀ cs t fr, W0.heap[b]? ≠ some (Obj.cells cs t fr)) (hf : TFrame b W0 W) : ChgRow W (some ⟨B, 0, none⟩) [(p, d, gn)] := by
  intro k hk
  obtain rfl : k = 0 := by simp at hk; omega
  have hstay : ∀ (m : Nat) cs t fz, W0.heap[m]? = some (Obj.cells cs t fz) → t ≠ 106 ∧ t ≠ 157 → W.heap[m]? = some (Obj.cells cs t fz) := fun m cs t fz h ht =>
    (hf.block m (lt_of_block h) (fun e => hm _ _ _ (e ▸ h)) (fun cs2 t2 hc => by
      rw [h] at hc
      injection hc with hc
      injection hc with _ e1
      rw [← e1]
      exact ht)).trans h
  have hB := hstay B _ _ _ hb ⟨by decide, by decide⟩
  refine ⟨B, 0, A', c', rfl, ?_, ?_, ?_, hle, ?_, ?_⟩
  · simp [World.cell?, hB]
  · simp [World.cell?, hB]
  · simp [World.cell?, hB]
  · intro ad e j u hj
    rcases ho with ⟨h1, _⟩ | ⟨m, cur, fz, h1, h2, h3⟩
    · rw [h1] at e; cases e
    · rw [h1] at e
      injection e with e
      have hM := hstay m _ _ _ h2 ⟨by decide, by decide⟩
      rw [← e, Addr.add_lit, Nat.zero_add]
      simp [World.cell?, hM, h3 j u hj]
  · intro e
    rcases ho with ⟨_, h1⟩ | ⟨m, cur, fz, h1, _⟩
    · exact h1
    · rw [e] at h1; cases h1
theorem TreeAt.noCells {w : World} {base g b now : Nat} {F : List FileS} (h : TreeAt w base g b now F) : ∀ cs t fr, w.heap[b]? ≠ some (Obj.cells cs t fr) := fun cs t fr e => by
  obtain ⟨es, ck, hmb⟩ := h.map.isMap
  rw [hmb] at e
  cases e
/-- A tree that is new. -/
theorem new_tree (w : World) : Calls Tryz.prog 31 #[] w fun e w' => ∃ g b, e = .returned (.pointer (some ⟨g, 0, none⟩)) ∧ TreeAt w' w.heap.size g b 0 [] ∧ Below w.heap.size w w' := by
  have hmm := @run_makeMap Tryz.prog
  have hms0 := mapAs_new w Tryz.prog 9
  have hbm := below_one w (.map #[] 0)
  go_enter Tryz.func31, Tryz.ntmps31
  go_wp2_with fail
  go_ret
  have hb2 := below_one (w.alloc (.map #[] 0)) (.cells #[.int .i64 0, .map (some w.heap.size)] 106)
  have hnew := heap_alloc_new (w.alloc (.map #[] 0)) (.cells #[.int .i64 0, .map (some w.heap.size)] 106)
  have hsz : (w.alloc (.map #[] 0)).heap.size = w.heap.size + 1 := by simp
  rw [hsz] at hnew
  refine ⟨_, w.heap.size, rfl, ⟨hnew, by simp, Nat.le_refl _, ?_, by simp, by simp, fun f hf => by cases hf⟩, below_from hbm hb2⟩
  exact hms0.below hb2
/-- A tree stays where a row of bytes that is not its own is written. -/
theorem TreeAt.poked {w w' : World} {base g b now m : Nat} {cur : Array Value} {F : List FileS} (h : TreeAt w base g b now F) (hm : w.heap[m]? = some (Obj.cells cur 5 (0, 0))) (hg : w.grownBy w' (some m)) (hd : ∀ f ∈ F, ∀ r ∈ f.rows, r.val.ownBlock ≠ some m) : TreeAt w' base g b now F := by
  have hgm : g ≠ m := fun e => by
    have := h.cell
    rw [e, hm] at this
    injection this with this
    injection this with _ e2
    exact absurd e2 (by decide)
  have hbm : b ≠ m := fun e => h.noCells _ _ _ (e ▸ hm)
  refine ⟨(hg.block g (lt_of_block h.cell) (fun e => hgm (Option.some.inj e))).trans h.cell, h.hg, h.hb, h.map.grown hg (fun e => hbm (Option.some.inj e)), h.once, h.apart, fun f hf => ?_⟩
  have hfa := h.files f hf
  refine ⟨hfa.1.kept hg (.inr (fun e => ?_)), hfa.2.1, fun r hr => ⟨(hfa.2.2.1 r hr).1.kept hg (.inr (hd f hf r hr)), (hfa.2.2.1 r hr).2⟩, hfa.2.2.2⟩
  obtain ⟨cur', h4⟩ := hfa.1.blk m e
  rw [hm] at h4
  injection h4 with h4
  injection h4 with _ e2
  exact absurd e2 (by decide)
end Go.Proofs.YtlidenehfmlebaaGreatDoor
