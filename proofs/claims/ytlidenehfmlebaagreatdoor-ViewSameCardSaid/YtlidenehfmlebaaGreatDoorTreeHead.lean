/-
  The laws' 'grows'; commits in the forms in which the laws use them.
-/
import Derived.Test.YtlidenehfmlebaaGreatDoorTreePlain
import Derived.Lib.SmallJoins
import Derived.Laws.IdiomStrings
set_option linter.unusedVariables false
set_option linter.unusedSimpArgs false
namespace Go.Proofs.YtlidenehfmlebaaGreatDoor
open Go.RowKit Go.Maps Go.WideMaps Go.WideAt
open Go.Proofs.YtlidenehfmlebaaGreatDoorW.PrintWords (Kd ReadsRow)
theorem conv_row {W : World} {A : Option Addr} {l : List Int} (c : Nat) (h : ByteRow W A l) (hA : A = none → l.length = 0) : (convert 55 9 (.slice A l.length c)).run Tryz.prog W = .ok (.string (strOfNums l)) W := by
  cases A with
  | none =>
    obtain rfl : l = [] := List.length_eq_zero_iff.1 (hA rfl)
    exact run_convert_bytes_nil W 55 5 Tryz.underlying55 Tryz.underlying5 0 c 9 Tryz.underlying9
  | some ad =>
    by_cases h0 : l = []
    · subst h0
      exact run_convert_bytes_back W 55 9 5 ad c [] Tryz.underlying55 Tryz.underlying5 Tryz.underlying9 (fun j hj => by simp at hj)
    · have hl : 0 < l.length := List.length_pos_iff.2 h0
      have hc : ∀ i, i < l.length → W.cell? (ad.add i) = some (.int .u8 (l.getD i 0)) := fun i hi => h ad rfl i _ (by simp [u8V, List.getD, hi])
      obtain ⟨b, off, spot⟩ := ad
      have hs : spot = none := by
        have := World.cell?_spot (hc 0 hl)
        simpa [Addr.add] using this
      subst hs
      exact run_convert_bytes_arg W 55 5 Tryz.underlying55 Tryz.underlying5 b off l.length c l rfl (fun i hi => by
        have := hc i hi
        rw [Addr.add_lit] at this
        exact this) 9 Tryz.underlying9
def PutPost2 (g b now : Nat) (l : List ChgD) (F : List FileS) (base : Nat) (w : World) (e : Ending) (w' : World) : Prop :=
  ∃ F', e = .returned (.tuple #[.int .i64 ((now : Int) + 1), .nilIface]) ∧ Puts (now + 1) w.heap.size F l F' ∧ TreeAt w' base g b (now + 1) F' ∧ Below base w w' ∧ TFrame b w w' ∧ mapN F' = mapN F + l.length
theorem commit_ok {P : Ending → World → Prop} {g b now : Nat} {l : List ChgD} {F : List FileS} {base : Nat} {w : World} (ht : TreeAt w base g b now F) (hc : chkT now F l = .nil) (h : P = CommitPost g b now l F base w) {e : Ending} {w' : World} (hp : P e w') : PutPost2 g b now l F base w e w' := by
  subst h
  rcases hp with ⟨h1, _⟩ | ⟨_, F', h1, h2, h3, h4, h5⟩
  · exact absurd hc h1
  · exact ⟨F', h1, h2, h3, h4, h5, (puts_size h2 ht.once).1⟩
theorem good_one (p : ByteArray) (d : List Int) (gn : Bool) (hp : p.size ≤ 140737488351232) (hd : ∀ x ∈ d, (Lit.int .u8 x).wf = true) (hl : d.length ≤ 300000) : ∀ x ∈ [(p, d, gn)], GoodC x := fun x hx => by
  rw [List.mem_singleton.1 hx]
  exact ⟨hp, hd, hl⟩
/-- One change, laid as a literal, is committed. -/
theorem commit_one (g b now B : Nat) (p : ByteArray) (A' : Option Addr) (c' : Nat) (d : List Int) (gn : Bool) (F : List FileS) (w : World) {base : Nat} (hb : w.heap[B]? = some (Obj.cells #[.string p, .slice A' d.length c', .bool gn] 66 (0, 0)))
    (ho : BytesIn w A' d) (hle : d.length ≤ c') (hp : p.size ≤ 140737488351232) (hd : ∀ x ∈ d, (Lit.int .u8 x).wf = true) (hl : d.length ≤ 300000) (hm : mapN F ≤ 90000) (hnow : now ≤ 1048576) (ht : TreeAt w base g b now F) (hbase : base ≤ w.heap.size) (hg : EnvM w) :
    Calls Tryz.prog 45 #[.pointer (some ⟨g, 0, none⟩), .slice (some ⟨B, 0, none⟩) 1 1] w (CommitPost g b now [(p, d, gn)] F base w) :=
  commit_any g b now (some ⟨B, 0, none⟩) 1 [(p, d, gn)] F w (base := base) (by simp) (fun W _ hf => chg_one hb ho hle ht.noCells hf) (good_one p d gn hp hd hl) (ht.small hm).2 (ht.small hm).1 hnow ht hbase hg
theorem path_a : checkB ⟨#[97]⟩ = none := by decide
theorem wf_x (k : Nat) (hk : k < 256) : ∀ x ∈ [(k : Int)], (Lit.int .u8 x).wf = true := fun x hx => by
  rw [List.mem_singleton.1 hx]
  simp [Lit.wf, IntKind.min, IntKind.max, IntKind.signed, IntKind.bits]
  omega
def litW (W : World) (p : ByteArray) (x : Int) : World := (W.alloc (.cells #[.int .u8 x] 5 (1, 2))).alloc (.cells #[.string p, .slice (some ⟨W.heap.size, 0, none⟩) 1 1, .bool false] 66)
theorem lit_below (W : World) (p : ByteArray) (x : Int) : Below W.heap.size W (litW W p x) := below_from (below_one W _) (below_one _ _)
/-- A literal's change of one byte onto files of that path alone. -/
theorem commit_lit (g b now x : Nat) (p : ByteArray) (F : List FileS) (W : World) {base : Nat} (hx : x < 256) (hp : checkB p = none) (hps : p.size ≤ 64) (hF : ∀ f ∈ F, f.path = p) (hm : mapN F ≤ 90000) (hnow : now < 1048576) (ht : TreeAt W base g b now F) (hbase : base ≤ W.heap.size) (hg : EnvM W) :
    Calls Tryz.prog 45 #[.pointer (some ⟨g, 0, none⟩), .slice (some ⟨W.heap.size + 1, 0, none⟩) 1 1] (litW W p x) (PutPost2 g b now [(p, [(x : Int)], false)] F base (litW W p x)) := by
  have hb := lit_below W p x
  have h1 : (W.alloc (.cells #[.int .u8 x] 5 (1, 2))).heap.size = W.heap.size + 1 := by simp
  have h2 := heap_alloc_new (W.alloc (.cells #[.int .u8 x] 5 (1, 2))) (.cells #[.string p, .slice (some ⟨W.heap.size, 0, none⟩) 1 1, .bool false] 66)
  rw [h1] at h2
  have h3 : (litW W p x).heap[W.heap.size]? = some (.cells #[.int .u8 x] 5 (1, 2)) := by
    have := (below_one (W.alloc (.cells #[.int .u8 x] 5 (1, 2))) (.cells #[.string p, .slice (some ⟨W.heap.size, 0, none⟩) 1 1, .bool false] 66)).block W.heap.size (by omega)
    exact this.trans (heap_alloc_new W _)
  have hin : BytesIn (litW W p x) (some ⟨W.heap.size, 0, none⟩) [(x : Int)] := .inr ⟨_, _, _, rfl, h3, fun j u hj => by
    match j, hj with
    | 0, hj => simpa [u8V] using hj⟩
  refine (commit_one g b now (W.heap.size + 1) p _ 1 [(x : Int)] false F (litW W p x) (base := base) h2 hin (by simp) (by omega) (wf_x x hx) (by simp) hm (by omega) (ht.below hb) (Nat.le_trans hbase hb.size) (hg.below hb)).mono ?_
  exact fun e w' hp2 => commit_ok (ht.below hb) (chk_put hp hF (by simp) hnow) rfl hp2
theorem lit_read {n B now : Nat} {F F' : List FileS} {p : ByteArray} {d : List Int} (h : Puts n B F [(p, d, false)] F') {ver : Int} (hv : (n : Int) ≤ ver) (hnow : ver ≤ now) : readT now F' ver p = (d, 0) := by
  have := puts_read (c := (p, d, false)) h (by simp) (by simp) hv hnow
  simpa using this
end Go.Proofs.YtlidenehfmlebaaGreatDoor
