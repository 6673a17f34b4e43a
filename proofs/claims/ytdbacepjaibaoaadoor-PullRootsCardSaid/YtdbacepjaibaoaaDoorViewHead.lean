/-
  The laws' 'looks'.
-/
import Derived.Test.YtdbacepjaibaoaaDoorViewUnpin
import Derived.Outline
set_option linter.unusedVariables false
set_option linter.unusedSimpArgs false
namespace Go.Proofs.YtdbacepjaibaoaaDoor
open Go.RowKit Go.Maps Go.WideMaps Go.WideAt
theorem puts_none {n B : Nat} {F F' : List FileS} {l : List ChgD} (h : Puts n B F l F') (hl : l = []) : F' = F := by
  cases h with
  | none => rfl
  | one c v dv h hd => simp at hl
theorem puts_one {n B : Nat} {F F' : List FileS} {l : List ChgD} (h : Puts n B F l F') : ∀ c, l = [c] → ∃ v dv, F' = putS F c.1 v ⟨n, dv, c.2.1, c.2.2⟩ := by
  cases h with
  | none => exact fun c e => by cases e
  | @one F2 l0 c0 v dv h0 hd =>
    intro c e
    have hl : l0 = [] := by
      cases l0 with
      | nil => rfl
      | cons a t => simp at e
    subst hl
    have hc : c0 = c := by simpa using e
    subst hc
    rw [puts_none h0 rfl]
    exact ⟨v, dv, rfl⟩
theorem forgot_one {now : Int} {keep : List Int} {p : ByteArray} {v : Value} {rows rows' : List SRow} {F' : List FileS} (h : Forgot now keep [⟨p, v, rows⟩] F') (hr : forgetR now keep rows = rows') (hn : rows' ≠ []) : ∃ v', F' = [⟨p, v', rows'⟩] := by
  unfold Forgot at h
  have e : ([(⟨p, v, rows⟩ : FileS)].map fun f => (f.path, forgetR now keep f.rows)).filter (fun x => !x.2.isEmpty) = [(p, rows')] := by
    simp only [List.map_cons, List.map_nil, hr]
    rw [List.filter_cons, if_pos (by cases rows' <;> simp at hn ⊢)]
    rfl
  rw [e] at h
  cases F' with
  | nil => cases h
  | cons a t =>
    cases t with
    | cons b u => simp at h
    | nil =>
      have h2 : (a.path, a.rows) = (p, rows') := by simpa using h
      injection h2 with h3 h4
      exact ⟨a.val, by cases a; simp at h3 h4; rw [h3, h4]⟩
theorem slit_commit (s g b pm now x : Nat) (p : ByteArray) (F : List FileS) (L : List Int) (W : World) {base : Nat} (hx : x < 256) (hp : checkB p = none) (hps : p.size ≤ 64) (hF : ∀ f ∈ F, f.path = p) (hL : L.length ≤ 1000) (hm : mapN F ≤ 80000) (hnow : now < 1048576) (hrise : RiseF now F) (hst : StoreAt W base s g b pm now F L) (hbase : base ≤ W.heap.size) (hg : EnvM W) :
    Calls Tryd.prog 16 #[.pointer (some ⟨s, 0, none⟩), .slice (some ⟨W.heap.size + 1, 0, none⟩) 1 1] (litW W p x) fun e w' => ∃ v dv F', e = .returned (.tuple #[.int .i64 ((now : Int) + 1), .nilIface]) ∧ Forgot ((now + 1 : Nat) : Int) L (putS F p v ⟨((now + 1 : Nat) : Int), dv, [(x : Int)], false⟩) F' ∧ StoreAt w' base s g b pm (now + 1) F' L ∧ Below base W w' := by
  have hb := lit_below W p x
  have h1 : (W.alloc (.cells #[.int .u8 x] 5 (1, 2))).heap.size = W.heap.size + 1 := by simp
  have h2 := heap_alloc_new (W.alloc (.cells #[.int .u8 x] 5 (1, 2))) (.cells #[.string p, .slice (some ⟨W.heap.size, 0, none⟩) 1 1, .bool false] 43)
  rw [h1] at h2
  have h3 : (litW W p x).heap[W.heap.size]? = some (.cells #[.int .u8 x] 5 (1, 2)) := by
    have := (below_one (W.alloc (.cells #[.int .u8 x] 5 (1, 2))) (.cells #[.string p, .slice (some ⟨W.heap.size, 0, none⟩) 1 1, .bool false] 43)).block W.heap.size (by omega)
    exact this.trans (heap_alloc_new W _)
  have hin : BytesIn (litW W p x) (some ⟨W.heap.size, 0, none⟩) [(x : Int)] := .inr ⟨_, _, _, rfl, h3, fun j u hj => by
    match j, hj with
    | 0, hj => simpa [u8V] using hj⟩
  refine (scommit_any s g b pm now (some ⟨W.heap.size + 1, 0, none⟩) 1 [(p, [(x : Int)], false)] F L (litW W p x) (base := base) hL (by simp) (fun W' _ hf => chg_one h2 hin (by simp) (hst.below hb).tree.noCells hf) (good_one p [(x : Int)] false (by omega) (wf_x x hx) (by simp)) hm (by omega) hrise (Nat.le_trans hbase hb.size) (hst.below hb) (hg.below hb)).mono ?_
  rintro e w' (⟨hno, _⟩ | ⟨_, B, F1, F', rfl, hpu, hfo, _, hs, hB, _⟩)
  · exact absurd (chk_put hp hF (by simp) hnow) hno
  · obtain ⟨v, dv, rfl⟩ := puts_one hpu _ rfl
    exact ⟨v, dv, F', rfl, hfo, hs, (hb.mono hbase).trans hB⟩
theorem look_rows1 (dv : Value) : forgetR ((0 + 1 : Nat) : Int) [] [⟨((0 + 1 : Nat) : Int), dv, [120], false⟩] = [⟨((0 + 1 : Nat) : Int), dv, [120], false⟩] := by
  simp [forgetR, keptR, needR, toR]
theorem look_rows2 (dv dv2 : Value) : forgetR ((1 + 1 : Nat) : Int) [1] [⟨((0 + 1 : Nat) : Int), dv, [120], false⟩, ⟨((1 + 1 : Nat) : Int), dv2, [121], false⟩] = [⟨((0 + 1 : Nat) : Int), dv, [120], false⟩, ⟨((1 + 1 : Nat) : Int), dv2, [121], false⟩] := by
  simp [forgetR, keptR, needR, toR]
theorem look_rows3 (dv dv2 : Value) : forgetR ((1 + 1 : Nat) : Int) [] [⟨((0 + 1 : Nat) : Int), dv, [120], false⟩, ⟨((1 + 1 : Nat) : Int), dv2, [121], false⟩] = [⟨((1 + 1 : Nat) : Int), dv2, [121], false⟩] := by
  simp [forgetR, keptR, needR, toR]
end Go.Proofs.YtdbacepjaibaoaaDoor
