/-
  The law TreeAll, walked.
-/
import Derived.Test.YtlidenehfmlebaaGreatDoorTreeFits
import Derived.Test.YtlidenehfmlebaaGreatDoorForgetP
import Derived.Outline
set_option linter.unusedVariables false
set_option linter.unusedSimpArgs false
namespace Go.Proofs.YtlidenehfmlebaaGreatDoor
open Go.RowKit Go.Maps Go.WideMaps Go.WideAt
open Go.Proofs.YtlidenehfmlebaaGreatDoorW.PrintWords (Kd ReadsRow)
/-- An argument that is changes. -/
def ChgArg (x : ChgD) : Prop := x.1.size ≤ maxLen ∧ (∀ y ∈ x.2.1, (Lit.int .u8 y).wf = true) ∧ True
structure Fits1 (l : List ChgD) : Prop where
  len : l.length ≤ 80
  good : ∀ c ∈ l, GoodC c
theorem fits1_of {l : List OpT} (h : fitT l = true) {o : OpT} (ho : o ∈ l) (hg : ∀ x ∈ o.2.1, ChgArg x) : Fits1 o.2.1 := by
  obtain ⟨_, h2, _⟩ := fitT_out h
  obtain ⟨a, _, b⟩ := h2 o ho
  exact ⟨a, fun c hc => ⟨by have := (b c hc).1; omega, (hg c hc).2.1, (b c hc).2⟩⟩
theorem chkT_once {now : Nat} {F : List FileS} {l : List ChgD} (h : chkT now F l = .nil) : (l.map (·.1)).Nodup ∧ (∀ c ∈ l, checkB c.1 = none) ∧ (∀ c ∈ l, c.2.2 = true → c.2.1 = []) := by
  unfold chkT at h
  split at h
  · cases h
  · rename_i af n hgo
    obtain ⟨a, _, b, c⟩ := chkGo_once hgo
    exact ⟨a, b, c⟩
/-- What is there behind changes, made or not. -/
structure Mid (g b now m : Nat) (F : List FileS) (base : Nat) (w : World) (w' : World) (now' : Nat) (F' : List FileS) : Prop where
  tree : TreeAt w' base g b now' F'
  below : Below base w w'
  size : mapN F' ≤ mapN F + m
  now : now ≤ now' ∧ now' ≤ now + 1
  rise : RiseF now' F'
  frame : TFrame b w w'
theorem commit_mid {g b now : Nat} {l : List ChgD} {F : List FileS} {base : Nat} {w : World} {e : Ending} {w' : World} (hp : CommitPost g b now l F base w e w') (ht : TreeAt w base g b now F) (hr : RiseF now F) (hbase : base ≤ w.heap.size) :
    ∃ u1 u2 now' F', e = .returned (.tuple #[u1, u2]) ∧ Mid g b now l.length F base w w' now' F' := by
  rcases hp with ⟨_, t, v, rfl, _, h1, h2⟩ | ⟨hc, F', rfl, h1, h2, h3, h4⟩
  · exact ⟨_, _, now, F, rfl, h1, h2.mono hbase, by omega, by omega, hr, TFrame.of_below h2⟩
  · exact ⟨_, _, now + 1, F', rfl, h2, h3, Nat.le_of_eq (puts_size h1 ht.once).1, by omega, (rise_puts h1 hr (chkT_once hc).1).1, h4⟩
theorem rise_top {now : Int} {F : List FileS} (h : RiseF now F) {v v' : Int} (h1 : now ≤ v) (h2 : now ≤ v') (p : ByteArray) : atRow F v p = atRow F v' p :=
  atRow_top (fun f hf r hr => ⟨by have := ((h f hf).2 r hr).2; omega, by have := ((h f hf).2 r hr).2; omega⟩) p
theorem list_len (now : Nat) (F : List FileS) (v : Int) (root : ByteArray) : (listT now F v root).1.length ≤ F.length := by
  rw [listT]
  split
  · simp
  · rw [sortB_len]
    exact Nat.le_trans (List.length_filter_le _ _) (by simp)
theorem list_there {now : Nat} {F : List FileS} {v : Int} {root q : ByteArray} (h : q ∈ (listT now F v root).1) : q ∈ F.map FileS.path ∧ ∃ d, readT now F v q = (d, 0) := by
  by_cases hv : v < 0 ∨ (now : Int) < v
  · rw [listT, if_pos hv] at h
    cases h
  · rw [list_mem (by omega) (by omega)] at h
    refine ⟨h.1, ?_⟩
    have h2 := h.2.2
    unfold thereB at h2
    rw [readT, if_neg hv]
    cases hr : atRow F v q with
    | none => rw [hr] at h2; cases h2
    | some r =>
      rw [hr] at h2
      have hg : r.gone = false := by simpa using h2
      exact ⟨r.data, by simp [hg]⟩
theorem read_elder {n now now' B : Nat} {F F' : List FileS} {l : List ChgD} (h : Puts n B F l F') {ver : Int} (hv : ver < n) (h0 : 0 ≤ ver) (h1 : ver ≤ now) (h1' : ver ≤ now') (q : ByteArray) : readT now' F' ver q = readT now F ver q := by
  rw [readT, readT, if_neg (by omega), if_neg (by omega), puts_old h hv]
theorem read_else {now B : Nat} {F F' : List FileS} {l : List ChgD} (h : Puts (now + 1) B F l F') (hr : RiseF now F) {q : ByteArray} (hq : q ∉ l.map (·.1)) : readT (now + 1) F' ((now : Int) + 1) q = readT now F now q := by
  rw [readT, readT, if_neg (by omega), if_neg (by omega), puts_not h hq, rise_top hr (show (now : Int) ≤ (now : Int) + 1 by omega) (Int.le_refl _)]
/-- List at a version that there is. -/
theorem list_text (g b now : Nat) (v : Int) (root : ByteArray) (F : List FileS) (L : List ByteArray) (w : World) {base : Nat} (hroot : root.size ≤ 140737488351232) (hm : mapN F ≤ 90000) (ht : TreeAt w base g b now F) (h0 : 0 ≤ v) (h1 : v ≤ now) (hL : (listT now F v root).1 = L) :
    Calls Tryz.prog 40 #[.pointer (some ⟨g, 0, none⟩), .int .i64 v, .string root] w fun e w' => ∃ A c, e = .returned (.tuple #[.slice A L.length c, .int .i64 0]) ∧ L.length ≤ c ∧ L.length ≤ 90000 ∧ TextRow w' A L ∧ w'.ownsRow w.heap.size 9 1 (.slice A L.length c) L.length (strs L) ∧ Below w.heap.size w w' := by
  have hs := ht.small hm
  have hll := list_len now F v root
  rw [hL] at hll
  refine (list_any g b now v root F w hroot (fun f hf => Nat.le_trans (hs.2 f hf) (by omega)) (Nat.le_trans hs.1 (by omega)) ht).mono ?_
  rintro e w' ⟨u, rfl, ho, hb⟩
  have e2 : (listT now F v root).2 = 0 := by rw [listT, if_neg (by omega)]
  rw [hL] at ho
  obtain ⟨A, c, rfl, hc, hr⟩ := own_row ho
  rw [e2]
  exact ⟨A, c, rfl, hc, Nat.le_trans hll hs.1, hr, ho, hb⟩
theorem read_text (g b now : Nat) (v : Int) (p : ByteArray) (F : List FileS) (d : List Int) (k : Int) (w : World) {base : Nat} (hp : p.size ≤ maxLen) (hm : mapN F ≤ 90000) (ht : TreeAt w base g b now F) (hr : readT now F v p = (d, k)) :
    Calls Tryz.prog 41 #[.pointer (some ⟨g, 0, none⟩), .int .i64 v, .string p] w fun e w' => ∃ A c, e = .returned (.tuple #[.slice A d.length c, .int .i64 k]) ∧ (∀ W, Below w'.heap.size w' W → (convert 55 9 (.slice A d.length c)).run Tryz.prog W = .ok (.string (strOfNums d)) W) ∧ w'.ownsRow w.heap.size 5 1 (.slice A d.length c) d.length (u8V d) ∧ Below w.heap.size w w' := by
  have hs := ht.small hm
  refine (read_any g b now v p F w hp (fun f hf => Nat.le_trans (hs.2 f hf) (by omega)) ht).mono ?_
  rw [hr]
  rintro e w' ⟨u, rfl, ho, hb⟩
  obtain ⟨A, c, rfl, _, r, sl⟩ := own_bytes ho
  exact ⟨A, c, rfl, fun W hW => conv_row c (r.below hW) sl, ho, hb⟩
end Go.Proofs.YtlidenehfmlebaaGreatDoor
