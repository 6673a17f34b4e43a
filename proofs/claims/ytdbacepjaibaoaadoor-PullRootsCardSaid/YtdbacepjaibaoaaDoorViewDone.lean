/-
  A store's List; the law's 'done'.
-/
import Derived.Test.YtdbacepjaibaoaaDoorViewFits
set_option linter.unusedVariables false
set_option linter.unusedSimpArgs false
namespace Go.Proofs.YtdbacepjaibaoaaDoor
open Go.RowKit Go.Maps Go.WideMaps Go.WideAt
/-- What a store lists. -/
def listV (now : Nat) (F : List FileS) (L : List Int) (v : Int) (root : ByteArray) : List ByteArray × Int := if thereV now L v ≠ 0 then ([], thereV now L v) else listT now F v root
theorem thereV_in {now : Nat} {L : List Int} {v : Int} (h : thereV now L v = 0) : 0 ≤ v ∧ v ≤ (now : Int) := by
  unfold thereV at h
  split at h
  · cases h
  · omega
set_option maxRecDepth 100000 in
set_option maxHeartbeats 4000000 in
theorem slist_any (s g b pm now : Nat) (F : List FileS) (L : List Int) (v : Int) (root : ByteArray) (l : List ByteArray) (k : Int) (w : World) {base : Nat} (hv : (Lit.int .i64 v).wf = true) (hroot : root.size ≤ 140737488351232) (hm : mapN F ≤ 90000) (hst : StoreAt w base s g b pm now F L) (hr : listV now F L v root = (l, k)) :
    Calls Tryd.prog 35 #[.pointer (some ⟨s, 0, none⟩), .int .i64 v, .string root] w fun e w' => ∃ A c, e = .returned (.tuple #[.slice A l.length c, .int .i64 k]) ∧ l.length ≤ c ∧ l.length ≤ 90000 ∧ TextRow w' A l ∧ w'.ownsRow w.heap.size 9 1 (.slice A l.length c) l.length (strs l) ∧ Below w.heap.size w w' := by
  obtain ⟨c0, c1, c2⟩ := store_cells hst
  have HTH := Lib.hid (there_any s g b pm now F L v w hv hst)
  have HST := Lib.hid hst
  clear hst c1 c2
  by_cases h0 : thereV now L v = 0
  · have hr2 : listT now F v root = (l, k) := by rw [← hr, listV, if_neg (by simp [h0])]
    obtain ⟨hv0, hv1⟩ := thereV_in h0
    have hk : k = 0 := by
      have e : (listT now F v root).2 = 0 := by rw [listT, if_neg (by omega)]
      rw [hr2] at e
      exact e
    subst hk
    have HR := Lib.hid hr2
    have H0 := Lib.hid h0
    clear hr hr2 h0
    go_enter Tryd.func35, Tryd.ntmps35
    go_wp2_with fail
    refine HTH.out.mono ?_
    rw [H0.out]
    rintro e w1 ⟨rfl, hb1⟩
    have x0 := cell_below hb1 c0
    have HB1 := Lib.hid hb1
    have hsz := hb1.size
    clear hb1
    go_wp2_with fail
    refine (list_text g b now v root F l w1 hroot hm (HST.out.tree.below HB1.out) hv0 hv1 (by rw [HR.out])).mono ?_
    rintro e w2 ⟨A, c, rfl, h1, h2, h3, ho, hb2⟩
    go_wp2_with fail
    go_ret2
    exact ⟨A, c, rfl, h1, h2, h3, own_mono ho hsz, below_from HB1.out hb2⟩
  · have hr2 : (([] : List ByteArray), thereV now L v) = (l, k) := by rw [← hr, listV, if_pos h0]
    injection hr2 with e1 e2
    subst e1
    have d1 : (thereV now L v == 0) = false := by rw [beq_eq_false_iff_ne]; exact h0
    obtain ⟨t, ht⟩ : ∃ t, t = thereV now L v := ⟨_, rfl⟩
    rw [← ht] at d1 e2 HTH
    subst e2
    clear hr h0 ht
    go_enter Tryd.func35, Tryd.ntmps35
    go_wp2_with fail
    refine HTH.out.mono ?_
    rintro e w1 ⟨rfl, hb1⟩
    have HB1 := Lib.hid hb1
    clear hb1
    go_wp2_with fail
    go_ret2
    exact ⟨none, 0, rfl, by simp, by simp, fun h => by simp at h, ⟨rfl, .inl ⟨rfl, rfl⟩⟩, HB1.out⟩
/-- What an operation comes to. -/
inductive DidV (now : Nat) (F : List FileS) (L : List Int) : OpV → Int → Int → Nat → List FileS → List Int → Prop
  | refused (n : Int) (cs : List ChgD) : chkT now F cs ≠ .nil → DidV now F L (0, n, cs) (chkT now F cs).num 0 now F L
  | made (n : Int) (cs : List ChgD) (B : Nat) (F1 F' : List FileS) : chkT now F cs = .nil → Puts (now + 1) B F cs F1 → Forgot ((now + 1 : Nat) : Int) L F1 F' → DidV now F L (0, n, cs) 0 ((now : Int) + 1) (now + 1) F' L
  | full (n : Int) (cs : List ChgD) : L.length = 64 → DidV now F L (1, n, cs) 3 0 now F L
  | pinned (n : Int) (cs : List ChgD) : L.length ≠ 64 → DidV now F L (1, n, cs) 0 now now F (L ++ [(now : Int)])
  | missing (n : Int) (cs : List ChgD) : n ∉ L → DidV now F L (2, n, cs) 4 0 now F L
  | less (n : Int) (cs : List ChgD) : n ∈ L → n ∈ L.erase n → DidV now F L (2, n, cs) 0 0 now F (L.erase n)
  | gone (n : Int) (cs : List ChgD) (F' : List FileS) : n ∈ L → n ∉ L.erase n → Forgot (now : Int) (L.erase n) F F' → DidV now F L (2, n, cs) 0 0 now F' (L.erase n)
  | other (k n : Int) (cs : List ChgD) : k ≠ 0 → k ≠ 1 → k ≠ 2 → DidV now F L (k, n, cs) 0 0 now F L
def DonePost (s g b pm now : Nat) (o : OpV) (F : List FileS) (L : List Int) (base : Nat) (w : World) (e : Ending) (w' : World) : Prop :=
  ∃ k ver now' F' L', e = .returned (.tuple #[.int .i64 k, .int .i64 ver]) ∧ DidV now F L o k ver now' F' L' ∧ mapN F' ≤ mapN F + o.2.2.length ∧ StoreAt w' base s g b pm now' F' L' ∧ Below base w w' ∧ SFrame w w'
end Go.Proofs.YtdbacepjaibaoaaDoor
