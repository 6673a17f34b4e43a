/-
  The law ViewSame holds for every input: the row and its card, out of the walk; taking of the package-level variables just what the card ties.
-/
import Derived.Test.YtlidenehfmlebaaGreatDoorViewDone
import Derived.Test.YtlidenehfmlebaaGreatDoorTreeStaysW
import Derived.Test.YtlidenehfmlebaaGreatDoorTreeBytes
import Derived.Test.YtlidenehfmlebaaGreatDoorTreeValid
import Derived.Test.YtlidenehfmlebaaGreatDoorOffRow
import Derived.Test.YtlidenehfmlebaaGreatDoorMaps
import Derived.Test.YtlidenehfmlebaaGreatDoorTreeCommitW
import Derived.Test.YtlidenehfmlebaaGreatDoorForgetW
import Derived.Test.YtlidenehfmlebaaGreatDoorViewFits
import Derived.Outline
import Derived.Test.YtlidenehfmlebaaGreatDoorCards
import Derived.Test.YtlidenehfmlebaaGreatDoorTie
import Derived.Test.YtlidenehfmlebaaGreatDoorRowKit
import Derived.SevenTiedAt
import Derived.SizedLaws
set_option linter.unusedVariables false
set_option linter.unusedSimpArgs false
namespace Go.Proofs.YtlidenehfmlebaaGreatDoor
open Go.RowKit Go.Maps Go.WideMaps Go.WideAt
theorem valid_forgot {now : Nat} {K : List Int} {F F' : List FileS} (h : Forgot (now : Int) K F F') (ho : (F.map FileS.path).Nodup) (hr : RiseF now F) (hv : ValidT now F) : ValidT now F' := by
  have e : listT now F' now ⟨#[]⟩ = listT now F now ⟨#[]⟩ := h.list ho hr (.inr rfl) (by omega) (by omega) _
  refine ⟨by rw [e]; exact hv.clash, by rw [e]; exact hv.count, ?_⟩
  rw [e]
  refine Nat.le_trans (Nat.le_of_eq ?_) hv.bytes
  unfold sumL
  congr 1
  refine List.map_congr_left (fun p hp => ?_)
  have h1 := data_there hp
  have h2 : readT now F' now p = (dataT now F now p, 0) := by rw [h.read ho hr (.inr rfl)]; exact h1
  rw [read_len h1, read_len h2]
/-- What is kept from operation to operation. -/
structure KeptV (now0 : Nat) (F0 : List FileS) (v : Int) (now : Nat) (F : List FileS) (L : List Int) : Prop where
  rise : RiseF now F
  mem : v ∈ L
  low : 0 ≤ v
  high : v ≤ (now : Int)
  shows : Shows now0 F0 now F v
  valid : ValidT now F
  len : L.length ≤ 64
  vers : ∀ x ∈ L, 0 ≤ x ∧ x ≤ (now : Int)
theorem mem_erase_le {L : List Int} {n x : Int} (h : x ∈ L.erase n) : x ∈ L := List.mem_of_mem_erase h
theorem KeptV.did {now0 : Nat} {F0 : List FileS} {v : Int} {now : Nat} {F : List FileS} {L : List Int} (h : KeptV now0 F0 v now F L) {o : OpV} {k ver : Int} {now' : Nat} {F' : List FileS} {L' : List Int} (hd : DidV now F L o k ver now' F' L') (ho : (F.map FileS.path).Nodup) (hno : ¬ (o.1 = 2 ∧ o.2.1 = v)) :
    KeptV now0 F0 v now' F' L' ∧ now ≤ now' ∧ now' ≤ now + 1 := by
  obtain ⟨h1, h2, h3, h4, h5, h6, h7, h8⟩ := h
  cases hd with
  | refused n cs hc => exact ⟨⟨h1, h2, h3, h4, h5, h6, h7, h8⟩, by omega, by omega⟩
  | made n cs B F1 F' hc hp hf =>
    have hr1 : RiseF ((now + 1 : Nat) : Int) F1 := (rise_puts hp h1 (chkT_once hc).1).1
    have ho1 := (puts_size hp ho).2
    refine ⟨⟨hf.rise hr1, h2, h3, by omega, ?_, valid_forgot hf ho1 hr1 (valid_puts hc hp h1 ho), h7, fun x hx => by have := h8 x hx; omega⟩, by omega, by omega⟩
    exact h5.trans ((shows_puts hp ho h3 h4).trans (shows_forgot hf ho1 hr1 (.inl h2) h3 (by omega)))
  | full n cs hl => exact ⟨⟨h1, h2, h3, h4, h5, h6, h7, h8⟩, by omega, by omega⟩
  | pinned n cs hl =>
    refine ⟨⟨h1, List.mem_append_left _ h2, h3, h4, h5, h6, by rw [List.length_append, List.length_singleton]; omega, fun x hx => ?_⟩, by omega, by omega⟩
    rcases List.mem_append.1 hx with hx | hx
    · exact h8 x hx
    · rw [List.mem_singleton.1 hx]; omega
  | missing n cs hl => exact ⟨⟨h1, h2, h3, h4, h5, h6, h7, h8⟩, by omega, by omega⟩
  | less n cs hm hin =>
    have hne : v ≠ n := fun e => hno ⟨rfl, e.symm⟩
    exact ⟨⟨h1, (List.mem_erase_of_ne hne).2 h2, h3, h4, h5, h6, Nat.le_trans List.length_erase_le h7, fun x hx => h8 x (mem_erase_le hx)⟩, by omega, by omega⟩
  | gone n cs F' hm hin hf =>
    have hne : v ≠ n := fun e => hno ⟨rfl, e.symm⟩
    have hmem := (List.mem_erase_of_ne hne).2 h2
    exact ⟨⟨hf.rise h1, hmem, h3, h4, h5.trans (shows_forgot hf ho h1 (.inl hmem) h3 h4), valid_forgot hf ho h1 h6, Nat.le_trans List.length_erase_le h7, fun x hx => h8 x (mem_erase_le hx)⟩, by omega, by omega⟩
  | other k n cs a b c => exact ⟨⟨h1, h2, h3, h4, h5, h6, h7, h8⟩, by omega, by omega⟩
/-- A version that is looked at is told as a tree tells it. -/
theorem KeptV.there {now0 : Nat} {F0 : List FileS} {v : Int} {now : Nat} {F : List FileS} {L : List Int} (h : KeptV now0 F0 v now F L) : thereV now L v = 0 := by
  unfold thereV
  rw [if_neg (by have := h.low; have := h.high; omega), if_neg (fun e => e.2 h.mem)]
theorem KeptV.list {now0 : Nat} {F0 : List FileS} {v : Int} {now : Nat} {F : List FileS} {L : List Int} (h : KeptV now0 F0 v now F L) (root : ByteArray) : listV now F L v root = listT now0 F0 v root := by
  rw [listV, if_neg (by rw [h.there]; simp), h.shows.list]
theorem KeptV.read {now0 : Nat} {F0 : List FileS} {v : Int} {now : Nat} {F : List FileS} {L : List Int} (h : KeptV now0 F0 v now F L) (p : ByteArray) : readV now F L v p = readT now0 F0 v p := by
  rw [readV, if_neg (by rw [h.there]; simp), h.shows.read]
theorem opVRow_one {W : World} {B : Nat} {A1 : Option Addr} {c1 : Nat} {l1 : List ChgD} (hb : W.heap[B]? = some (Obj.cells #[.int .i64 0, .int .i64 0, .slice A1 l1.length c1] 37 (0, 0)))
    (h1 : l1.length ≤ c1) (r1 : ChgRow W A1 l1) : OpVRow W (some ⟨B, 0, none⟩) [(0, 0, l1)] := fun k hk =>
  match k, hk with
  | 0, _ => ⟨B, 0, A1, c1, rfl, by simp [World.cell?, hb], by simp [World.cell?, hb], by simp [World.cell?, hb], h1, r1⟩
theorem good_fit {l : List ChgD} (h : fitV [(0, 0, l)] = true) (hg : ∀ x ∈ l, ChgArg x) : l.length ≤ 20 ∧ ∀ x ∈ l, GoodC x := by
  obtain ⟨_, h2, _⟩ := fitV_out h
  obtain ⟨a, b⟩ := h2 (0, 0, l) (by simp)
  exact ⟨a, fun c hc => ⟨by have := (b c hc).1; omega, (hg c hc).2.1, (b c hc).2⟩⟩
theorem good_fits {l : List OpV} (h : fitV l = true) (hg : ∀ x ∈ l, OpVArg x) : ∀ o ∈ l, o.2.2.length ≤ 20 ∧ (Lit.int .i64 o.2.1).wf = true ∧ ∀ x ∈ o.2.2, GoodC x := fun o ho => by
  obtain ⟨_, h2, _⟩ := fitV_out h
  obtain ⟨a, b⟩ := h2 o ho
  exact ⟨a, (hg o ho).2.1, fun c hc => ⟨by have := (b c hc).1; omega, ((hg o ho).2.2 c hc).2.1, (b c hc).2⟩⟩
end Go.Proofs.YtlidenehfmlebaaGreatDoor

namespace Go.Proofs.YtlidenehfmlebaaGreatDoor
open Go.RowKit Go.Maps Go.WideMaps Go.WideAt
/-- With nothing to be kept at most one state is kept. -/
theorem kept_single {now : Int} : ∀ {rows : List SRow}, (∀ r ∈ rows, r.ver ≤ now) → (keptR now [] rows).length ≤ 1 ∧ ∀ r ∈ keptR now [] rows, r ∈ rows
  | [], _ => ⟨by simp [keptR], fun r h => by simp [keptR] at h⟩
  | s :: rest, h => by
    have ih := kept_single (rows := rest) (fun r hr => h r (by simp [hr]))
    rw [keptR]
    cases rest with
    | nil =>
      split
      · exact ⟨by simp [keptR], fun r hr => by simpa [keptR] using hr⟩
      · exact ⟨by simp [keptR], fun r hr => by simp [keptR] at hr⟩
    | cons t u =>
      have hn : needR now [] s (t :: u) = false := by
        have ht := h t (by simp)
        have hd : decide (toR now (t :: u) = now) = false := decide_eq_false (by show ¬ t.ver - 1 = now; omega)
        rw [needR, hd]
        rfl
      rw [if_neg (by rw [hn]; simp)]
      exact ⟨ih.1, fun r hr => by simp [ih.2 r hr]⟩
theorem forget_single {now : Int} {rows : List SRow} (h : ∀ r ∈ rows, r.ver ≤ now) (hn : forgetR now [] rows ≠ []) : ∃ r, forgetR now [] rows = [r] ∧ r.gone = false ∧ r ∈ rows := by
  obtain ⟨h1, h2⟩ := kept_single h
  unfold forgetR at hn ⊢
  cases hk : keptR now [] rows with
  | nil => rw [hk] at hn; simp at hn
  | cons r t =>
    rw [hk] at h1 hn
    have ht : t = [] := List.length_eq_zero_iff.1 (by rw [List.length_cons] at h1; omega)
    subst ht
    have hg : r.gone = false := by
      cases hg : r.gone with
      | false => rfl
      | true => simp [hg] at hn
    exact ⟨r, by simp [hg], hg, h2 r (by rw [hk]; simp)⟩
def Single (now : Nat) (F : List FileS) : Prop := ∀ f ∈ F, ∃ r, f.rows = [r] ∧ r.gone = false ∧ r.ver ≤ (now : Int)
theorem single_forgot {now : Nat} {F F' : List FileS} (h : Forgot (now : Int) [] F F') (hr : RiseF (now : Int) F) : Single now F' := fun f hf => by
  obtain ⟨f0, h0, _, e, hn⟩ := h.mem hf
  have hle := fun r hr2 => ((hr f0 h0).2 r hr2).2
  obtain ⟨r, h1, h2, h3⟩ := forget_single hle (by rw [← e]; exact hn)
  exact ⟨r, by rw [e, h1], h2, hle r h3⟩
/-- What is kept while nobody asks. -/
structure LittleV (now : Nat) (F : List FileS) (L : List Int) : Prop where
  rise : RiseF now F
  len : L.length ≤ 64
  vers : ∀ x ∈ L, 0 ≤ x ∧ x ≤ (now : Int)
  single : L = [] → Single now F
  paths : ∀ f ∈ F, checkB f.path = none
theorem little_none : LittleV 0 [] [] := ⟨rise_none _, by simp, (fun x hx => by cases hx), (fun _ f hf => by cases hf), (fun f hf => by cases hf)⟩
theorem paths_forgot {now : Int} {K : List Int} {F F' : List FileS} (h : Forgot now K F F') (hp : ∀ f ∈ F, checkB f.path = none) : ∀ f ∈ F', checkB f.path = none := fun f hf => by
  obtain ⟨f0, h0, e, _, _⟩ := h.mem hf
  rw [← e]
  exact hp f0 h0
theorem LittleV.did {now : Nat} {F : List FileS} {L : List Int} (h : LittleV now F L) {o : OpV} {k ver : Int} {now' : Nat} {F' : List FileS} {L' : List Int} (hd : DidV now F L o k ver now' F' L') (ho : (F.map FileS.path).Nodup) :
    LittleV now' F' L' ∧ now ≤ now' ∧ now' ≤ now + 1 := by
  obtain ⟨h1, h2, h3, h4, h5⟩ := h
  cases hd with
  | refused n cs hc => exact ⟨⟨h1, h2, h3, h4, h5⟩, by omega, by omega⟩
  | made n cs B F1 F' hc hp hf =>
    have hr1 : RiseF ((now + 1 : Nat) : Int) F1 := (rise_puts hp h1 (chkT_once hc).1).1
    refine ⟨⟨hf.rise hr1, h2, (fun x hx => by have := h3 x hx; omega), (fun e => ?_), paths_forgot hf (fun f hf1 => ?_)⟩, by omega, by omega⟩
    · subst e
      exact single_forgot hf hr1
    · rcases puts_paths hp f hf1 with h | h
      · obtain ⟨f0, h0, e⟩ := List.mem_map.1 h
        rw [← e]; exact h5 f0 h0
      · obtain ⟨c, hcl, e⟩ := List.mem_map.1 h
        rw [← e]; exact (chkT_once hc).2.1 c hcl
  | full n cs hl => exact ⟨⟨h1, h2, h3, h4, h5⟩, by omega, by omega⟩
  | pinned n cs hl =>
    refine ⟨⟨h1, by rw [List.length_append, List.length_singleton]; omega, (fun x hx => ?_), (fun e => by simp at e), h5⟩, by omega, by omega⟩
    rcases List.mem_append.1 hx with hx | hx
    · exact h3 x hx
    · rw [List.mem_singleton.1 hx]; omega
  | missing n cs hl => exact ⟨⟨h1, h2, h3, h4, h5⟩, by omega, by omega⟩
  | less n cs hm hin => exact ⟨⟨h1, Nat.le_trans List.length_erase_le h2, (fun x hx => h3 x (mem_erase_le hx)), (fun e => by rw [e] at hin; cases hin), h5⟩, by omega, by omega⟩
  | gone n cs F' hm hin hf =>
    refine ⟨⟨hf.rise h1, Nat.le_trans List.length_erase_le h2, fun x hx => h3 x (mem_erase_le hx), fun e => ?_, paths_forgot hf h5⟩, by omega, by omega⟩
    rw [e] at hf
    exact single_forgot hf h1
  | other k n cs a b c => exact ⟨⟨h1, h2, h3, h4, h5⟩, by omega, by omega⟩
/-- Nobody looks: as many states as files. -/
theorem LittleV.states {now : Nat} {F : List FileS} {L : List Int} (h : LittleV now F L) (ho : (F.map FileS.path).Nodup) (he : L = []) : (listT now F now ⟨#[]⟩).1.length = mapN F := by
  have hs := h.single he
  have hall : ∀ p ∈ F.map FileS.path, listedB F now ⟨#[]⟩ p = true := fun p hp => by
    obtain ⟨f, hf, rfl⟩ := List.mem_map.1 hp
    obtain ⟨r, h1, h2, h3⟩ := hs f hf
    have hro := rowsOf_mem ho hf
    have hat : atRow F now f.path = some r := by
      unfold atRow
      unfold rowsOf at hro
      cases hc : fileOf F f.path with
      | none => exact absurd rfl (fileOf_none hc f hf)
      | some f' =>
        rw [hc] at hro
        have hro2 : f'.rows = f.rows := hro
        show lastK f'.rows now f'.rows.length = some r
        rw [hro2, h1]
        simp [lastK, h3]
    unfold listedB thereB
    rw [hat, beneath_root.2 (check_nonempty (h.paths f hf))]
    simp [h2]
  have hlen : ∀ l : List FileS, (∀ f ∈ l, f.rows.length = 1) → mapN l = l.length := fun l hl => by
    induction l with
    | nil => rfl
    | cons a t ih =>
      have := ih (fun f hf => hl f (by simp [hf]))
      have := hl a (by simp)
      simp only [mapN, List.map_cons, List.sum_cons, List.length_cons] at *
      omega
  rw [listT, if_neg (by omega), sortB_len, List.filter_eq_self.2 hall, List.length_map, hlen F (fun f hf => by obtain ⟨r, h1, _⟩ := hs f hf; rw [h1]; rfl)]
/-- A look less is an operation. -/
theorem unpin_did {s g b pm now : Nat} {F : List FileS} {L : List Int} {v : Int} {base : Nat} {w : World} {e : Ending} {w' : World} (hp : UnpinPost s g b pm now F L v base w e w') (hin : v ∈ L) :
    ∃ F', e = .returned (.int .i64 0) ∧ DidV now F L (2, v, []) 0 0 now F' (L.erase v) ∧ mapN F' ≤ mapN F ∧ StoreAt w' base s g b pm now F' (L.erase v) ∧ Below base w w' ∧ SFrame w w' := by
  rcases hp with ⟨hno, _⟩ | ⟨_, F', rfl, h1, h2, h3, h4, h5, h6⟩
  · exact absurd hin hno
  · refine ⟨F', rfl, ?_, h3, h4, h5, h6⟩
    by_cases hie : v ∈ L.erase v
    · rw [h1 hie]
      exact .less v [] hin hie
    · exact .gone v [] F' hin hie (h2 hie)
end Go.Proofs.YtlidenehfmlebaaGreatDoor

namespace Go.Proofs.YtlidenehfmlebaaGreatDoor
open Go.RowKit Go.Maps Go.WideMaps Go.WideAt
/-- The data that are seen of a path at a version. -/
def visD (F : List FileS) (v : Int) (p : ByteArray) : Option (List Int) := (visO (atRow F v p)).map SRow.data
theorem there_visD (F : List FileS) (v : Int) (p : ByteArray) : thereB F v p = (visD F v p).isSome := by
  rw [there_vis, visD, Option.isSome_map]
theorem read_visD (now : Nat) (F : List FileS) (v : Int) (p : ByteArray) : readT now F v p = if v < 0 ∨ (now : Int) < v then ([], 1) else match visD F v p with
    | some d => (d, (0 : Int))
    | none => ([], (4 : Int)) := by
  rw [read_vis, visD]
  split
  · rfl
  · cases visO (atRow F v p) <;> rfl
theorem len_visD {F : List FileS} {v : Int} {p : ByteArray} {d : List Int} (h : visD F v p = some d) : lenAt F v p = d.length := by
  unfold visD at h
  unfold lenAt
  cases hr : atRow F v p with
  | none => rw [hr] at h; cases h
  | some r =>
    rw [hr] at h
    unfold visO at h
    cases hg : r.gone with
    | true => simp [hg] at h
    | false =>
      simp [hg] at h
      rw [← h]
def SameV (now : Nat) (Fa Fb : List FileS) : Prop := ∀ p, visD Fa now p = visD Fb now p
theorem same_none : SameV 0 [] [] := fun p => rfl
theorem SameV.there {now : Nat} {Fa Fb : List FileS} (h : SameV now Fa Fb) (p : ByteArray) : thereB Fa now p = thereB Fb now p := by rw [there_visD, there_visD, h p]
theorem SameV.read {now : Nat} {Fa Fb : List FileS} (h : SameV now Fa Fb) (p : ByteArray) : readT now Fa now p = readT now Fb now p := by rw [read_visD, read_visD, h p]
theorem SameV.list {now : Nat} {Fa Fb : List FileS} (h : SameV now Fa Fb) (ha : (Fa.map FileS.path).Nodup) (hb : (Fb.map FileS.path).Nodup) (root : ByteArray) : listT now Fa now root = listT now Fb now root :=
  list_vis hb ha (fun p => h.there p) (by omega) (by omega) (by omega) (by omega) root
theorem SameV.chk {now : Nat} {Fa Fb : List FileS} (h : SameV now Fa Fb) (ha : (Fa.map FileS.path).Nodup) (hb : (Fb.map FileS.path).Nodup) (l : List ChgD) : chkT now Fa l = chkT now Fb l := by
  have e1 : thereB Fa now = thereB Fb now := funext h.there
  have e2 : ∀ seen, stayL Fa now seen = stayL Fb now seen := fun seen => by unfold stayL; rw [h.list ha hb]
  have e3 : ∀ seen, sumL (lenAt Fa now) (stayL Fb now seen) = sumL (lenAt Fb now) (stayL Fb now seen) := fun seen => sum_le_mem (fun p hp => by
    have hm := (List.mem_filter.1 hp).1
    have ht := ((list_mem (by omega) (by omega)).1 hm).2.2
    rw [there_visD] at ht
    obtain ⟨d, hd⟩ := Option.isSome_iff_exists.1 ht
    rw [len_visD hd, len_visD ((h p).trans hd)])
  unfold chkT
  rw [e1]
  split
  · rfl
  · rw [e2, e3]
theorem top_rows {now : Nat} {F : List FileS} (hr : RiseF now F) (p : ByteArray) : atRow F ((now + 1 : Nat) : Int) p = atRow F now p :=
  atRow_top (fun f hf r hr2 => by have := ((hr f hf).2 r hr2).2; constructor <;> omega) p
theorem SameV.puts {now Ba Bb : Nat} {Fa Fb Fa' Fb' : List FileS} {l : List ChgD} (h : SameV now Fa Fb) (ha : Puts (now + 1) Ba Fa l Fa') (hb : Puts (now + 1) Bb Fb l Fb') (hn : (l.map (·.1)).Nodup) (hra : RiseF now Fa) (hrb : RiseF now Fb) : SameV (now + 1) Fa' Fb' := fun p => by
  by_cases hp : p ∈ l.map (·.1)
  · obtain ⟨c, hc, rfl⟩ := List.mem_map.1 hp
    obtain ⟨d1, _, e1⟩ := puts_mem ha hn (ver := ((now + 1 : Nat) : Int)) (Int.le_refl _) hc
    obtain ⟨d2, _, e2⟩ := puts_mem hb hn (ver := ((now + 1 : Nat) : Int)) (Int.le_refl _) hc
    unfold visD
    rw [e1, e2]
    unfold visO
    cases c.2.2 <;> rfl
  · have := h p
    unfold visD at this ⊢
    rw [puts_not ha hp, puts_not hb hp, top_rows hra, top_rows hrb]
    exact this
theorem visD_forgot {now : Nat} {K : List Int} {F F' : List FileS} (h : Forgot (now : Int) K F F') (ho : (F.map FileS.path).Nodup) (hr : RiseF now F) (p : ByteArray) : visD F' now p = visD F now p := by
  unfold visD
  rw [h.vis ho hr (.inr rfl)]
theorem SameV.forgot {now : Nat} {K : List Int} {Fa Fb Fa' : List FileS} (h : SameV now Fa Fb) (hf : Forgot (now : Int) K Fa Fa') (ho : (Fa.map FileS.path).Nodup) (hr : RiseF now Fa) : SameV now Fa' Fb := fun p => (visD_forgot hf ho hr p).trans (h p)
theorem SameV.symm {now : Nat} {Fa Fb : List FileS} (h : SameV now Fa Fb) : SameV now Fb Fa := fun p => (h p).symm
/-- An operation that isn't a commit. -/
theorem SameV.look {now : Nat} {Fa Fb : List FileS} {L : List Int} (h : SameV now Fa Fb) {o : OpV} {k ver : Int} {now' : Nat} {F' : List FileS} {L' : List Int} (hd : DidV now Fa L o k ver now' F' L') (ho : (Fa.map FileS.path).Nodup) (hr : RiseF now Fa) (h0 : o.1 ≠ 0) : now' = now ∧ SameV now F' Fb := by
  cases hd with
  | refused n cs hc => exact absurd rfl h0
  | made n cs B F1 F' hc hp hf => exact absurd rfl h0
  | full n cs hl => exact ⟨rfl, h⟩
  | pinned n cs hl => exact ⟨rfl, h⟩
  | missing n cs hl => exact ⟨rfl, h⟩
  | less n cs hm hin => exact ⟨rfl, h⟩
  | gone n cs F' hm hin hf => exact ⟨rfl, h.forgot hf ho hr⟩
  | other k n cs a b c => exact ⟨rfl, h⟩
/-- The same commit at both. -/
theorem SameV.commit {now : Nat} {Fa Fb : List FileS} {La Lb : List Int} (h : SameV now Fa Fb) {n : Int} {cs : List ChgD} {ka va : Int} {na : Nat} {Fa' : List FileS} {La' : List Int} {kb vb : Int} {nb : Nat} {Fb' : List FileS} {Lb' : List Int}
    (hda : DidV now Fa La (0, n, cs) ka va na Fa' La') (hdb : DidV now Fb Lb (0, n, cs) kb vb nb Fb' Lb') (ha : (Fa.map FileS.path).Nodup) (hb : (Fb.map FileS.path).Nodup) (hra : RiseF now Fa) (hrb : RiseF now Fb) :
    ka = kb ∧ va = vb ∧ na = nb ∧ La' = La ∧ Lb' = Lb ∧ SameV na Fa' Fb' := by
  have hc := h.chk ha hb cs
  cases hda with
  | refused _ _ h1 =>
    cases hdb with
    | refused _ _ h2 => exact ⟨by rw [hc], rfl, rfl, rfl, rfl, h⟩
    | made _ _ B F1 F' h2 _ _ => exact absurd (hc.trans h2) h1
    | other _ _ _ a _ _ => exact absurd rfl a
  | made _ _ B F1 F' h1 hp hf =>
    cases hdb with
    | refused _ _ h2 => exact absurd (hc.symm.trans h1) h2
    | made _ _ B2 F2 F2' h2 hp2 hf2 =>
      have hn := (chkT_once h1).1
      have hsa := h.puts hp hp2 hn hra hrb
      have hra1 := (rise_puts hp hra hn).1
      have hrb1 := (rise_puts hp2 hrb hn).1
      exact ⟨rfl, rfl, rfl, rfl, rfl, ((hsa.forgot hf (puts_size hp ha).2 hra1).symm.forgot hf2 (puts_size hp2 hb).2 hrb1).symm⟩
    | other _ _ _ a _ _ => exact absurd rfl a
  | other _ _ _ a _ _ => exact absurd rfl a
/-- Where nobody looks there aren't more states. -/
theorem SameV.fewer {now : Nat} {Fa Fb : List FileS} (h : SameV now Fa Fb) (ha : (Fa.map FileS.path).Nodup) (hb : (Fb.map FileS.path).Nodup) (hl : LittleV now Fb []) (hp : ∀ f ∈ Fa, 0 < f.rows.length) : mapN Fb ≤ mapN Fa := by
  rw [← hl.states hb rfl, ← h.list ha hb, listT, if_neg (by omega), sortB_len]
  refine Nat.le_trans (List.length_filter_le _ _) ?_
  rw [List.length_map]
  exact (mapN_len hp).1
end Go.Proofs.YtlidenehfmlebaaGreatDoor

namespace Go.Proofs.YtlidenehfmlebaaGreatDoor
open Go.RowKit Go.Maps Go.WideMaps Go.WideAt
/-- All but some blocks stays. -/
structure FrB (S : Nat → Prop) (w w' : World) : Prop where
  os : w'.os = w.os
  tape : w'.tape = w.tape
  output : w'.output = w.output
  size : w.heap.size ≤ w'.heap.size
  block : ∀ k, k < w.heap.size → ¬ S k → w'.heap[k]? = w.heap[k]?
theorem FrB.refl (S : Nat → Prop) (w : World) : FrB S w w := ⟨rfl, rfl, rfl, Nat.le_refl _, fun _ _ _ => rfl⟩
theorem FrB.of_below {S : Nat → Prop} {w w' : World} (h : Below w.heap.size w w') : FrB S w w' := ⟨h.os, h.tape, h.output, h.size, fun k hk _ => h.block k hk⟩
theorem FrB.of_grown {S : Nat → Prop} {w w' : World} {row : Option Nat} (h : w.grownBy w' row) (hr : ∀ b, row = some b → b < w.heap.size → S b) : FrB S w w' := ⟨h.os, h.tape, h.output, h.size, fun k hk hn => h.block k hk (fun e => hn (hr k e.symm hk))⟩
theorem FrB.trans {S S' : Nat → Prop} {w w1 w2 : World} (h1 : FrB S w w1) (h2 : FrB S' w1 w2) (hs : ∀ k, k < w.heap.size → S' k → S k) : FrB S w w2 :=
  ⟨h2.os.trans h1.os, h2.tape.trans h1.tape, h2.output.trans h1.output, Nat.le_trans h1.size h2.size, fun k hk hn => (h2.block k (Nat.lt_of_lt_of_le hk h1.size) (fun h => hn (hs k hk h))).trans (h1.block k hk hn)⟩
theorem FrB.mono {S S' : Nat → Prop} {w w' : World} (h : FrB S w w') (hs : ∀ k, k < w.heap.size → S k → S' k) : FrB S' w w' := ⟨h.os, h.tape, h.output, h.size, fun k hk hn => h.block k hk (fun h => hn (hs k hk h))⟩
theorem FrB.below {S : Nat → Prop} {w w' : World} {B : Nat} (h : FrB S w w') (hB : B ≤ w.heap.size) (hS : ∀ k, S k → B ≤ k) : Below B w w' :=
  ⟨h.os, h.tape, h.output, h.size, fun k hk => h.block k (by omega) (fun hs => by have := hS k hs; omega)⟩
theorem FrB.set {S : Nat → Prop} {w : World} {b n : Nat} (v : Value) (hb : S b) : FrB S w (w.setCell ⟨b, n, none⟩ v) := ⟨rfl, rfl, rfl, by simp, fun k _ hn => Below.heap_setCell w ⟨b, n, none⟩ _ k (fun e => hn (by rw [e]; exact hb))⟩
theorem FrB.own {S : Nat → Prop} {w w' : World} (h : FrB S w w') {base size n : Nat} {e : TypeId} {v : Value} {xs : List Value} (ho : w.ownsRow base e size v n xs) (hne : ∀ b, v.ownBlock = some b → ¬ S b) : w'.ownsRow base e size v n xs := by
  obtain ⟨a, c⟩ := ho
  refine ⟨a, ?_⟩
  rcases c with c | ⟨g, cap, cur, rfl, hbb, hg, r⟩
  · exact .inl c
  · exact .inr ⟨g, cap, cur, rfl, hbb, (h.block g (lt_of_block hg) (hne g rfl)).trans hg, r⟩
theorem FrB.off {S : Nat → Prop} {w w' : World} (h : FrB S w w') {base size n : Nat} {e : TypeId} {v : Value} {xs : List Value} (ho : OffRow w base e size v n xs) (hne : ∀ b, v.ownBlock = some b → ¬ S b) : OffRow w' base e size v n xs := by
  obtain ⟨a, c⟩ := ho
  refine ⟨a, ?_⟩
  rcases c with c | ⟨g, off, cap, cur, rfl, hbb, hg, r⟩
  · exact .inl c
  · exact .inr ⟨g, off, cap, cur, rfl, hbb, (h.block g (lt_of_block hg) (hne g rfl)).trans hg, r⟩
theorem FrB.at_ {S : Nat → Prop} {w w' : World} (h : FrB S w w') {k : Nat} {o : Obj} (ho : w.heap[k]? = some o) (hne : ¬ S k) : w'.heap[k]? = some o := (h.block k (lt_of_block ho) hne).trans ho
/-- Are some blocks rows of some types? -/
def OfTypes (w : World) (S : Nat → Prop) (ts : List TypeId) : Prop := ∀ k, S k → k < w.heap.size → ∃ cs t fr, w.heap[k]? = some (Obj.cells cs t fr) ∧ t ∈ ts
theorem OfTypes.cells {w : World} {S : Nat → Prop} {ts : List TypeId} (h : OfTypes w S ts) {k : Nat} {cs : Array Value} {t : TypeId} {fr : Nat × Nat} (hk : w.heap[k]? = some (Obj.cells cs t fr)) (ht : t ∉ ts) : ¬ S k := fun hs => by
  obtain ⟨cs2, t2, fr2, h1, h2⟩ := h k hs (lt_of_block hk)
  rw [hk] at h1
  injection h1 with h1
  injection h1 with _ h3
  exact ht (h3 ▸ h2)
theorem OfTypes.map {w : World} {S : Nat → Prop} {ts : List TypeId} (h : OfTypes w S ts) {k : Nat} {es : Array MapEntry} {ck : Nat} (hk : w.heap[k]? = some (Obj.map es ck)) : ¬ S k := fun hs => by
  obtain ⟨cs2, t2, fr2, h1, h2⟩ := h k hs (lt_of_block hk)
  rw [hk] at h1
  cases h1
theorem OfTypes.row {w : World} {S : Nat → Prop} {ts : List TypeId} (h : OfTypes w S ts) {base size n : Nat} {e : TypeId} {v : Value} {xs : List Value} (ho : w.ownsRow base e size v n xs) (ht : e ∉ ts) : ∀ b, v.ownBlock = some b → ¬ S b := fun b hb => by
  rcases ho.2 with ⟨rfl, _⟩ | ⟨k, cap, cur, rfl, _, hh, _⟩
  · simp [Value.ownBlock] at hb
  · have : k = b := by simpa [Value.ownBlock] using hb
    subst this
    exact h.cells hh ht
theorem OfTypes.offRow {w : World} {S : Nat → Prop} {ts : List TypeId} (h : OfTypes w S ts) {base size n : Nat} {e : TypeId} {v : Value} {xs : List Value} (ho : OffRow w base e size v n xs) (ht : e ∉ ts) : ∀ b, v.ownBlock = some b → ¬ S b := fun b hb => by
  obtain ⟨cur, hc⟩ := ho.blk b hb
  exact h.cells hc ht
theorem FrB.mapAs {S : Nat → Prop} {w w' : World} (h : FrB S w w') {P : Program} {k : TypeId} {b n : Nat} {m : Lit → Option Value} (hm : MapAs w P k b n m) (hne : ¬ S b) : MapAs w' P k b n m := by
  obtain ⟨es, ck, hb⟩ := hm.isMap
  exact hm.block (h.block b (lt_of_block hb) hne)
end Go.Proofs.YtlidenehfmlebaaGreatDoor

namespace Go.Proofs.YtlidenehfmlebaaGreatDoor
open Go.RowKit Go.Maps Go.WideMaps Go.WideAt
/-- A tree's own blocks, but for its data. -/
def TBk (g b : Nat) (F : List FileS) (k : Nat) : Prop := k = g ∨ k = b ∨ ∃ f ∈ F, f.val.ownBlock = some k
/-- Rows lie where elder ones lay, or from n on. -/
def SubF (n : Nat) (F F' : List FileS) : Prop := ∀ f' ∈ F', ∀ k, f'.val.ownBlock = some k → k < n → ∃ f ∈ F, f.val.ownBlock = some k
theorem SubF.refl (n : Nat) (F : List FileS) : SubF n F F := fun f hf k hk _ => ⟨f, hf, hk⟩
def CommitPostB (g b now : Nat) (l : List ChgD) (F : List FileS) (base : Nat) (w : World) (e : Ending) (w' : World) : Prop :=
  (chkT now F l ≠ .nil ∧ ∃ t v, e = .returned (.tuple #[.int .i64 0, .iface t v]) ∧ ErrV w' (.iface t v) (chkT now F l) ∧ TreeAt w' base g b now F ∧ Below w.heap.size w w') ∨
  (chkT now F l = .nil ∧ ∃ F', e = .returned (.tuple #[.int .i64 ((now : Int) + 1), .nilIface]) ∧ Puts (now + 1) w.heap.size F l F' ∧ TreeAt w' base g b (now + 1) F' ∧ Below base w w' ∧ TFrame b w w' ∧ FrB (TBk g b F) w w' ∧ SubF w.heap.size F F')
theorem commit_nextB {w W0 w6 w4 w5 : World} {o : Obj} {g b : Nat} {F Fk : List FileS} {p : ByteArray} {v4 oldv : Value} {r : SRow} {base : Nat}
    (HF0 : FrB (TBk g b F) w W0) (HB06 : Below W0.heap.size W0 w6) (hold : (lookF Fk (keyS p)).getD (.slice none 0 0) = oldv) (hlt : ∀ j, oldv.ownBlock = some j → base ≤ j ∧ j < (w6.alloc o).heap.size)
    (hg4 : (w6.alloc o).grownBy w4 oldv.ownBlock) (hloc : v4.ownBlock = oldv.ownBlock ∨ v4.ownBlock = some (w6.alloc o).heap.size) (hg5 : w4.grownBy w5 (some b)) (hs : SubF w.heap.size F Fk) :
    FrB (TBk g b F) w w5 ∧ SubF w.heap.size F (putS Fk p v4 r) := by
  have hold2 : ∀ k, oldv.ownBlock = some k → k < w.heap.size → ∃ f ∈ F, f.val.ownBlock = some k := fun k hk hlt => by
    rw [lookF_key] at hold
    cases hf : fileOf Fk p with
    | none => rw [hf] at hold; rw [← hold] at hk; simp [Value.ownBlock] at hk
    | some f0 =>
      rw [hf] at hold
      change f0.val = oldv at hold
      exact hs f0 (file_mem hf).1 k (by rw [hold]; exact hk) hlt
  have h6 : FrB (TBk g b F) w w6 := HF0.trans (FrB.of_below (S := TBk g b F) HB06) (fun k _ h => h)
  have h7 : FrB (TBk g b F) w (w6.alloc o) := h6.trans (FrB.of_below (S := TBk g b F) (below_one w6 o)) (fun k _ h => h)
  have h4 : FrB (TBk g b F) w w4 := h7.trans (FrB.of_grown (S := fun k => oldv.ownBlock = some k) hg4 (fun k hk _ => hk)) (fun k hk h => .inr (.inr (hold2 k h hk)))
  refine ⟨h4.trans (FrB.of_grown (S := fun k => k = b) hg5 (fun k hk _ => (Option.some.inj hk).symm)) (fun k _ h => .inr (.inl h)), fun f' hf' k hk hlt' => ?_⟩
  rcases put_mem hf' with ⟨h, _⟩ | h
  · exact hs f' h k hk hlt'
  · have hval : f'.val = v4 := by
      rcases h with h | ⟨f0, _, _, h⟩
      · rw [h]
      · rw [h]
    rw [hval] at hk
    rcases hloc with e | e
    · exact hold2 k (e ▸ hk) hlt'
    · exfalso
      have : k = (w6.alloc o).heap.size := by
        have := hk.symm.trans e
        exact Option.some.inj this
      have := h7.size
      omega
set_option maxRecDepth 100000 in
set_option maxHeartbeats 8000000 in
theorem commit_anyB (g b now : Nat) (A : Option Addr) (c : Nat) (l : List ChgD) (F : List FileS) (w : World) {base : Nat} (hl : l.length ≤ 1000) (hlr : ∀ W, Below base w W → TFrame b w W → ChgRow W A l) (hgood : ∀ x ∈ l, GoodC x) (hr : ∀ f ∈ F, f.rows.length ≤ 90000) (hF : F.length ≤ 90000) (hnow : now ≤ 1048576) (ht : TreeAt w base g b now F) (hbase : base ≤ w.heap.size) (hg : EnvM w) :
    Calls Tryz.prog 45 #[.pointer (some ⟨g, 0, none⟩), .slice A l.length c] w (CommitPostB g b now l F base w) := by
  have HCK := Lib.hid (check_tree g b now A c l F w hl (hlr w (Below.refl _ _) (TFrame.refl _ _)) hgood (fun f hf => Nat.le_trans (hr f hf) (by omega)) (by omega) ht hg)
  have HT := Lib.hid ht
  have HLR := Lib.hid hlr
  have HGD := Lib.hid hgood
  have HRR := Lib.hid hr
  clear ht hlr hgood hr
  go_enter Tryz.func45, Tryz.ntmps45
  go_wp2_with fail
  refine HCK.out.mono ?_
  rintro e w2 ⟨er, rfl, hve, hb2⟩
  by_cases hch : chkT now F l = .nil
  · rw [hch] at hve
    obtain rfl : er = .nilIface := hve
    have HCH := Lib.hid hch
    have HSM := Lib.hid (chkT_small hch)
    obtain ⟨tc0, tc1⟩ := tree_cells (HT.out.below hb2)
    have tf0 : w2.frozen? ⟨g, 0, none⟩ = false := frozen_of_row w2 g 0 _ _ (HT.out.below hb2).cell
    have hbz2 : base ≤ w2.heap.size := Nat.le_trans hbase hb2.size
    obtain ⟨ht3, hb3, hf3⟩ := (HT.out.below hb2).tick (now + 1) hbz2
    have HT3 := Lib.hid ht3
    have HB3 := Lib.hid ((hb2.mono hbase).trans hb3)
    have HF3 := Lib.hid ((TFrame.of_below hb2).trans hf3)
    have HFB3 : Hid (FrB (TBk g b F) w (w2.setCell ⟨g, 0, none⟩ (.int .i64 ((now + 1 : Nat) : Int)))) := Lib.hid ((FrB.of_below (S := TBk g b F) hb2).trans (FrB.set (S := TBk g b F) (n := 0) _ (.inl rfl)) (fun k _ h => h))
    have HB2 := Lib.hid hb2
    have e1 : ((now + 1 : Nat) : Int) = (now : Int) + 1 := by omega
    rw [e1] at ht3 hb3 hf3
    clear hch ht3 hb3 hf3
    have hmN : mapN F ≤ 8100000000 := Nat.le_trans (mapN_le HRR.out) (by omega)
    obtain ⟨i0, hi0, hz0, hz1, hz2⟩ := info_parts infoState
    go_wp2_with fail
    obtain ⟨W3, hW3⟩ : ∃ W3, W3 = w2.setCell ⟨g, 0, none⟩ (.int .i64 ((now : Int) + 1)) := ⟨_, rfl⟩
    have e1' : w2.setCell ⟨g, 0, none⟩ (.int .i64 ((now + 1 : Nat) : Int)) = W3 := by rw [e1, hW3]
    rw [e1'] at HT3 HB3 HF3 HFB3
    rw [← hW3]
    clear e1' hW3 tf0 tc0 tc1
    go_loopw [24] (fun i wr => ∃ (k : Nat) (Fk : List FileS), k ≤ l.length ∧ i = .int .i64 k ∧ Puts (now + 1) w.heap.size F (l.take k) Fk ∧ TreeAt wr base g b (now + 1) Fk ∧ Below base w wr ∧ TFrame b w wr ∧ (FrB (TBk g b F) w wr ∧ SubF w.heap.size F Fk) ∧ (∀ f ∈ Fk, f.rows.length ≤ 90000 + k) ∧ mapN Fk = mapN F + k) (fun i _ => l.length - (intOf i).toNat)
    case atStart => exact ⟨0, F, by omega, rfl, Puts.none F, HT3.out, HB3.out, HF3.out, ⟨HFB3.out, SubF.refl _ _⟩, fun f hf => HRR.out f hf, by omega⟩
    case round =>
      obtain ⟨k, Fk, hk, rfl, hpu, htk, hbk, hfk, hfb, hrk, hmk⟩ := hrel
      have HFB := Lib.hid hfb
      clear hfb
      have HPU := Lib.hid hpu
      have HTK := Lib.hid htk
      have HBK := Lib.hid hbk
      have HFK := Lib.hid hfk
      have HRK := Lib.hid hrk
      have hbsk : base ≤ wr.heap.size := Nat.le_trans hbase hbk.size
      clear hpu htk hbk hfk hrk
      by_cases hlt : k < l.length
      · obtain ⟨bb, off, A1, c1, rfl, x1, x2, x3, x4, x5, x6⟩ := HLR.out wr HBK.out HFK.out k hlt
        obtain ⟨ch, hch⟩ : ∃ ch, ch = l[k] := ⟨_, rfl⟩
        have hgc := HGD.out ch (hch ▸ List.getElem_mem hlt)
        have hps := HSM.out ch (hch ▸ List.getElem_mem hlt)
        have htake : l.take (k + 1) = l.take k ++ [ch] := by rw [List.take_succ_eq_append_getElem hlt, hch]
        rw [← hch] at x1 x2 x3 x4 x5 x6
        obtain ⟨p, d, gn⟩ := ch
        obtain ⟨_, hdw, hdl⟩ := hgc
        simp only at x1 x2 x3 x4 x5 x6 hps hdw hdl
        have hbo := below_one wr (.cells #[.string p, .slice A1 d.length c1, .bool gn] 66)
        have HT0 := Lib.hid (HTK.out.below hbo)
        have HBR0 := Lib.hid (x5.below hbo)
        have HX6 := Lib.hid x6
        have HDW := Lib.hid hdw
        have HTAKE := Lib.hid htake
        have HB0 := Lib.hid (HBK.out.trans (hbo.mono hbsk))
        have HF0 := Lib.hid (HFK.out.trans (TFrame.of_below hbo))
        have HFB0 : Hid (FrB (TBk g b F) w (wr.alloc (.cells #[.string p, .slice A1 d.length c1, .bool gn] 66))) := Lib.hid (HFB.out.1.trans (FrB.of_below (S := TBk g b F) hbo) (fun k _ h => h))
        have y1 : (wr.alloc (.cells #[.string p, .slice A1 d.length c1, .bool gn] 66)).cell? ⟨wr.heap.size, 0, none⟩ = some (.string p) := by simp
        have y2 : (wr.alloc (.cells #[.string p, .slice A1 d.length c1, .bool gn] 66)).cell? ⟨wr.heap.size, 1, none⟩ = some (.slice A1 d.length c1) := by simp
        have y3 : (wr.alloc (.cells #[.string p, .slice A1 d.length c1, .bool gn] 66)).cell? ⟨wr.heap.size, 2, none⟩ = some (.bool gn) := by simp
        clear x5 x6 hch hdw htake hbo
        go_wp2_with fail
        generalize hW0 : wr.alloc (.cells #[.string p, .slice A1 d.length c1, .bool gn] 66) = W0 at *
        obtain ⟨cb, hcb⟩ : ∃ cb, cb = wr.heap.size := ⟨_, rfl⟩
        rw [← hcb] at y1 y2 y3 ⊢
        have hbs0 : base ≤ W0.heap.size := Nat.le_trans hbase HB0.out.size
        have hpm : p.size ≤ maxLen := by unfold maxLen; omega
        obtain ⟨tc0, tc1⟩ := tree_cells HT0.out
        rw [e1] at tc0
        obtain ⟨oldv, hold, hown⟩ := HT0.out.rows p
        have hkey := keyOf_string_mk (P := Tryz.prog) Tryz.underlying9 hpm
        have hlook0 : (Instr.lookup 104 (.map (some b)) (.string p) false).run Tryz.prog W0.drew = .ok oldv W0.drew := by
          have := (HT0.out.below (Below.drew (Below.refl _ _))).map.look strKeyed Tryz.underlying104 (zeroStates W0.drew) (key := .string p) hkey
          rw [this]
          exact congrArg (fun v => Result.ok v W0.drew) hold
        have hc0 : W0.heap[cb]? = some (Obj.cells #[.string p, .slice A1 d.length c1, .bool gn] 66 (0, 0)) := by
          rw [← hW0, hcb]
          exact heap_alloc_new wr _
        have hg0 := HT0.out.cell
        rw [e1] at hg0
        have HOLD := Lib.hid hold
        have HOWN := Lib.hid hown
        have HCL := Lib.hid (clone_any A1 c1 d W0.drew hdl HX6.out (HBR0.out.below (Below.drew (Below.refl _ _))))
        have hrows := rowsOf_le (p := p) HRK.out
        have HC0 := Lib.hid hc0
        have HG0 := Lib.hid hg0
        clear hold hown hW0 hcb hc0 hg0
        go_region_held3 (fun w' => w'.cell? ⟨cb, 0, none⟩ = some (.string p) ∧ w'.cell? ⟨cb, 1, none⟩ = some (.slice A1 d.length c1) ∧ w'.cell? ⟨cb, 2, none⟩ = some (.bool gn) ∧ w'.cell? ⟨g, 0, none⟩ = some (.int .i64 ((now : Int) + 1)) ∧ w'.cell? ⟨g, 1, none⟩ = some (.map (some b)))
          (first
            | exact s6
            | exact s7
            | exact s4
            | exact s5
            | (go_split_ands
               refine ⟨?_, ?_, ?_, ?_, ?_⟩ <;> first | assumption | go_keep))
          (first
            | (refine step_append_off _ rfl (.tmp 40) (.tmp 51) 107 rfl base 157 i0 (.agg #[.int .i64 0, .slice none 0 0, .bool false]) 3 40 Tryz.underlying107 hi0 hz0 hz1 hz2 rfl (by decide) oldv (rowsOf Fk p).length ((rowsOf Fk p).flatMap SRow.cells) (by rfl) HOW6.out ⟨w6.heap.size, 0, none⟩ 1 1 [.int .i64 ((now : Int) + 1), .slice Ad d.length cd, .bool gn] (by rfl) (by rfl) (src_three w6 _ _ _ _) (fun u hu => one_three hdv1 hu) (by unfold maxLen; omega) (by omega) (by simp; omega) ?_
               intro v4 w4 hown4 hg4 hloc4
               have ht7 := (HT0.out.below HB06.out).below (below_one w6 (.cells #[.int .i64 ((now : Int) + 1), .slice Ad d.length cd, .bool gn] 157))
               obtain ⟨es6, ck6, hmb6⟩ := ht7.map.isMap
               have hm4 := ht7.map.grown hg4 (HOW6.out.ne hmb6)
               have hc4 := HOW6.out.block HC7.out (by decide) hg4
               have hg4' := HOW6.out.block HG7.out (by decide) hg4
               have s4 := held_of hc4 hg4'
               obtain ⟨es4, ck4, hmb4⟩ := hm4.isMap
               obtain ⟨w5, hrun5, hm5, hg5⟩ := hm4.store strKeyed Tryz.underlying104 (by unfold maxLen; omega) (key := .string p) v4 hkey
               have s5 := held_of (heap_mapped hmb4 hg5 hc4) (heap_mapped hmb4 hg5 hg4')
               have HOWN4 := Lib.hid hown4
               have HG4 := Lib.hid hg4
               have HLOC4 := Lib.hid hloc4
               have HM5 := Lib.hid hm5
               have HG5 := Lib.hid hg5
               clear ht7 hm4 hmb6 hc4 hg4' hmb4 hown4 hg4 hloc4 hm5 hg5)
            | (go_at_call 67
               refine HCL.out.mono ?_
               rintro e w6 ⟨dv0, rfl, hod, hb6⟩
               obtain ⟨Ad, cd, rfl⟩ := own_slice hod
               have hb06 : Below W0.heap.size W0 w6 := Below.trans (Below.drew (Below.refl _ _)) hb6
               have HOD := Lib.hid hod
               have HB06 := Lib.hid hb06
               have hb67 := below_one w6 (.cells #[.int .i64 ((now : Int) + 1), .slice Ad d.length cd, .bool gn] 157)
               have hc6 := (hb06.block cb (lt_of_block HC0.out)).trans HC0.out
               have hg6 := (hb06.block g (lt_of_block HG0.out)).trans HG0.out
               have hc7 := (hb67.block cb (lt_of_block hc6)).trans hc6
               have hg7 := (hb67.block g (lt_of_block hg6)).trans hg6
               have s6 := held_of hc6 hg6
               have s7 := held_of hc7 hg7
               have HC7 := Lib.hid hc7
               have HG7 := Lib.hid hg7
               have hlook6 : (Instr.lookup 104 (.map (some b)) (.string p) false).run Tryz.prog w6 = .ok oldv w6 := by
                 rw [(HT0.out.below hb06).map.look strKeyed Tryz.underlying104 (zeroStates w6) (key := .string p) hkey]
                 exact congrArg (fun v => Result.ok v w6) HOLD.out
               have hlook7 : (Instr.lookup 104 (.map (some b)) (.string p) false).run Tryz.prog (w6.alloc (.cells #[.int .i64 ((now : Int) + 1), .slice Ad d.length cd, .bool gn] 157)) = .ok oldv (w6.alloc (.cells #[.int .i64 ((now : Int) + 1), .slice Ad d.length cd, .bool gn] 157)) := by
                 rw [((HT0.out.below hb06).below hb67).map.look strKeyed Tryz.underlying104 (zeroStates _) (key := .string p) hkey]
                 exact congrArg (fun v => Result.ok v (w6.alloc (.cells #[.int .i64 ((now : Int) + 1), .slice Ad d.length cd, .bool gn] 157))) HOLD.out
               have HOW6 : Hid (OffRow (w6.alloc (.cells #[.int .i64 ((now : Int) + 1), .slice Ad d.length cd, .bool gn] 157)) base 157 3 oldv (rowsOf Fk p).length ((rowsOf Fk p).flatMap SRow.cells)) := (HOWN.out.stay hb06).stay hb67
               have hdv1 : (Value.slice Ad d.length cd).oneCell' = true := one_own hod
               have hbs6 := hb06.size
               clear hod hb06 hb6 hb67 hc6 hg6 hc7 hg7))
        all_goals
          obtain ⟨z1, z2, z3, z4, z5, z6⟩ := commit_next (n1 := now + 1) (gn := gn) (p := p) HT0.out hbs0 HB0.out HF0.out HB06.out HOD.out HDW.out hdl hps HOLD.out HOW6.out HOWN4.out (by simp [SRow.cells]) HG4.out HLOC4.out HM5.out HG5.out HPU.out HRK.out
          have hzb := commit_nextB (r := ⟨((now + 1 : Nat) : Int), .slice Ad d.length cd, d, gn⟩) HFB0.out HB06.out HOLD.out HOW6.out.lt HG4.out HLOC4.out HG5.out HFB.out.2
          have HZB := Lib.hid hzb
          clear hzb
          rw [← HTAKE.out] at z1
          have HZ := Lib.hid (And.intro z1 (And.intro z2 (And.intro z3 (And.intro z4 z5))))
          clear z1 z2 z3 z4 z5
          go_wp2_with fail
          go_roundw
          case rel => exact ⟨k + 1, _, by omega, by go_num, HZ.out.1, HZ.out.2.1, HZ.out.2.2.1, HZ.out.2.2.2.1, HZB.out, HZ.out.2.2.2.2, by omega⟩
          case measure => simp [intOf]; omega
      · obtain rfl : k = l.length := by omega
        obtain ⟨tc0, tc1⟩ := tree_cells HTK.out
        have hpu := HPU.out
        rw [List.take_length] at hpu
        rw [e1] at tc0
        have HPU2 := Lib.hid hpu
        clear hpu tc1
        go_wp2_with fail
        go_ret2
        exact .inr ⟨HCH.out, Fk, rfl, HPU2.out, HTK.out, HBK.out, HFK.out, HFB.out.1, HFB.out.2⟩
  · obtain ⟨et, ev, rfl⟩ := errV_iface hve hch
    have HVE := Lib.hid hve
    have HCH := Lib.hid hch
    clear hve hch
    go_wp2_with fail
    go_ret2
    exact .inl ⟨HCH.out, _, _, rfl, HVE.out, HT.out.below hb2, hb2⟩
end Go.Proofs.YtlidenehfmlebaaGreatDoor

namespace Go.Proofs.YtlidenehfmlebaaGreatDoor
open Go.RowKit Go.Maps Go.WideMaps Go.WideAt
/-- The rows of the files that came lie from n on. -/
def VNew (n : Nat) (left : Lit → Bool) (V : ByteArray → Value) (F : List FileS) : Prop := ∀ f ∈ F, left (keyS f.path) = false → ∀ k, (V f.path).ownBlock = some k → n ≤ k
theorem vnew_next {n : Nat} {left : Lit → Bool} {V : ByteArray → Value} {F : List FileS} {x : ByteArray} {v : Value} (h : VNew n left V F) (hv : ∀ k, v.ownBlock = some k → n ≤ k) : VNew n (nextL left x) (nextV V x v) F := fun f hf hl k hk => by
  unfold nextV at hk
  split at hk
  · exact hv k hk
  · rename_i hne
    unfold nextL at hl
    rw [keyS_same, decide_eq_false hne] at hl
    exact h f hf (by simpa using hl) k hk
theorem vnew_end {now : Int} {keep : List Int} {n : Nat} {left : Lit → Bool} {V : ByteArray → Value} {F : List FileS} (h : VNew n left V F) (hno : ∀ kl, left kl = false) : ∀ f' ∈ stepF now keep left V F, ∀ k, f'.val.ownBlock = some k → n ≤ k := fun f' hf' k hk => by
  obtain ⟨f, hf, e⟩ := List.mem_filterMap.1 hf'
  unfold stepOne at e
  rw [if_neg (by rw [hno]; simp)] at e
  split at e
  · cases e
  · injection e with e
    rw [← e] at hk
    exact h f hf (hno _) k hk
def ForgetPostB (g b now : Nat) (keep : List Int) (F : List FileS) (base : Nat) (w : World) (e : Ending) (w' : World) : Prop :=
  ∃ (F' : List FileS) (n : Nat), e = .returned (.int .i64 n) ∧ n + mapN F' = mapN F ∧ Forgot now keep F F' ∧ TreeAt w' base g b now F' ∧ w.grownBy w' (some b) ∧ ∀ f ∈ F', ∀ k, f.val.ownBlock = some k → w.heap.size ≤ k
set_option maxRecDepth 100000 in
set_option maxHeartbeats 16000000 in
theorem forget_anyB (g b now : Nat) (A : Option Addr) (c : Nat) (keep : List Int) (F : List FileS) (w : World) {base : Nat} (hkl : keep.length ≤ 1000) (hkeep : IntRow w A keep) (hr : ∀ f ∈ F, f.rows.length ≤ 90000) (hF : F.length ≤ 90000) (hrise : RiseF now F) (hnow : now ≤ 2097152) (ht : TreeAt w base g b now F) (hbase : base ≤ w.heap.size) :
    Calls Tryz.prog 69 #[.pointer (some ⟨g, 0, none⟩), .slice A keep.length c] w (ForgetPostB g b now keep F base w) := by
  obtain ⟨c0, c1⟩ := tree_cells ht
  have HT := Lib.hid ht
  have HKP := Lib.hid hkeep
  have HR := Lib.hid hr
  have HRI := Lib.hid hrise
  have HNC := Lib.hid ht.noCells
  have hgl : g < w.heap.size := lt_of_block ht.cell
  have hbl : b < w.heap.size := ht.map.lt
  clear ht hkeep hr hrise
  go_enter Tryz.func69, Tryz.ntmps69
  go_wp2_with (first | (at_range; go_loud (refine wpList_range_as _ rfl _ 104 rfl 9 107 strKeyed Tryz.underlying104 b (mapN F) (lookF F) rfl HT.out.map ?_); intro w0 left0 cnt0 hrg0 hl0 hg0 hs0) | go_in)
  have HRG0 := Lib.hid hrg0
  have HL0 := Lib.hid hl0
  have HG0 := Lib.hid (World.grownBy.but hg0 (some b))
  have HB0 := Lib.hid (below_of_grown hg0)
  clear hg0 hrg0 hl0
  have hstart : stepF now keep left0 (fun _ => .nilIface) F = F := step_start (fun f hf => (HL0.out (keyS f.path) trivial).trans (path_look (List.mem_map.2 ⟨f, hf, rfl⟩)))
  have HST := Lib.hid hstart
  clear hstart
  go_frame
  go_loopw [5] (fun nv wr => ∃ (left : Lit → Bool) (cnt : Nat) (V : ByteArray → Value), RangeAs wr Tryz.prog 9 b w.heap.size (mapN F) (lookF (stepF now keep left V F)) left cnt ∧ FilesIn wr base (stepF now keep left V F) ∧ w.grownBy wr (some b) ∧ VNew w.heap.size left V F ∧ nv = .int .i64 ((goneN now keep F left : Nat) : Int)) (fun _ wr => wr.rangeLeft b w.heap.size)
  case atStart => exact ⟨left0, cnt0, fun _ => .nilIface, by rw [HST.out]; exact HRG0.out, by rw [HST.out]; exact ⟨fun f hf => (HT.out.files f hf).below HB0.out, HT.out.apart⟩, HG0.out, (fun f hf h => by rw [(HL0.out (keyS f.path) trivial).trans (path_look (List.mem_map.2 ⟨f, hf, rfl⟩))] at h; cases h), by rw [goneN_start (fun p hp => (HL0.out (keyS p) trivial).trans (path_look hp))]; rfl⟩
  case round =>
    obtain ⟨left, cnt, V, hrg, hfi, hgr, hvn, rfl⟩ := hrel
    have HVN := Lib.hid hvn
    clear hvn
    have HRG := Lib.hid hrg
    have HFI := Lib.hid hfi
    have HGR := Lib.hid hgr
    have hszr := hgr.size
    have HLE := Lib.hid (goneN_le (now := now) (keep := keep) (left := left) HR.out)
    obtain ⟨n0, hn0⟩ : ∃ n0, n0 = goneN now keep F left := ⟨_, rfl⟩
    rw [← hn0] at HLE ⊢
    have HN0 := Lib.hid hn0
    have hn0l : n0 ≤ 8100000000 := Nat.le_trans HLE.out (Nat.mul_le_mul_right 90000 hF)
    clear hrg hfi hgr hn0 HLE
    go_wp2_with (first | (at_next; refine wpList_next_as _ rfl _ rfl 9 Tryz.underlying9 strKeyed b w.heap.size (mapN F) (lookF (stepF now keep left V F)) _ _ rfl HRG.out ?_ ?_) | go_in)
    · intro hnone
      have HNO := Lib.hid hnone
      clear hnone
      go_wp2_with fail
      go_ret
      have hfo := step_end (now := (now : Int)) (keep := keep) (V := V) (F := F) HNO.out
      have hsum := mapN_forgot hfo
      rw [← goneN_end (left := left) HT.out.once HNO.out, ← HN0.out] at hsum
      refine ⟨stepF now keep left V F, n0, rfl, hsum, hfo, ?_, HGR.out, vnew_end HVN.out HNO.out⟩
      have hpos : ∀ f ∈ stepF now keep left V F, 0 < f.rows.length := fun f hf => (HFI.out.files f hf).2.1
      have honce := hfo.once HT.out.once
      refine ⟨(HGR.out.block g hgl (fun e => ?_)).trans HT.out.cell, HT.out.hg, HT.out.hb, ?_, honce, HFI.out.apart, HFI.out.files⟩
      · injection e with e
        exact HNC.out _ _ _ (e ▸ HT.out.cell)
      · refine (HRG.out.map.tight strKeyed (ks := (stepF now keep left V F).map fun f => keyS f.path) (fun kl hkl hs => ?_)).mono (by rw [List.length_map]; exact (mapN_len hpos).1)
        rcases lit_cases kl with ⟨q, rfl⟩ | h
        · obtain ⟨v, hv⟩ := Option.isSome_iff_exists.1 hs
          obtain ⟨f, hf, e⟩ := List.mem_map.1 (look_path hv)
          exact List.mem_map.2 ⟨f, hf, by rw [e]⟩
        · rw [look_other _ _ h] at hs
          cases hs
    · intro x cv w1 cnt1 hxm hlx hmx hrg1 hlt hg1 hs1 hen
      obtain ⟨f, hf, rfl⟩ := key_path HT.out.once hlx hmx
      have hnc := HRG.out.no_cells
      have hfi1 := HFI.out.other hnc.1 hg1
      have hgr1 : w.grownBy w1 (some b) := World.grownBy.andThen HGR.out hg1 (fun j hj => .inl (by cases hj; exact Nat.le_refl _))
      obtain ⟨hfm, hfp⟩ := file_mem hf
      have hfa : FileAt w1 base f := hfi1.files f (List.mem_filterMap.2 ⟨f, hfm, stepOne_left (by rw [hfp]; exact hlx)⟩)
      obtain ⟨bb, oo, cc, hval, hcc, hcell⟩ := rows_form hfa
      have hrl := HR.out f hfm
      have hri := HRI.out f hfm
      have HF := Lib.hid hf
      have HLX := Lib.hid hlx
      have HRG1 := Lib.hid hrg1
      have HFI1 := Lib.hid hfi1
      have HGR1 := Lib.hid hgr1
      have HC1 := Lib.hid hcell
      have HRI1 := Lib.hid hri
      have HVAL := Lib.hid hval
      have HFM := Lib.hid hfm
      have HFA := Lib.hid hfa
      have HLT : Hid (cnt1 < wr.rangeLeft b w.heap.size) := Lib.hid (by rw [HRG.out.left_eq]; exact hlt)
      have hsz1 := hgr1.size
      have hcg : w1.heap[g]? = some (Obj.cells #[.int .i64 now, .map (some b)] 106 (0, 0)) := (hgr1.block g hgl (fun e => by injection e with e; exact HNC.out _ _ _ (e ▸ HT.out.cell))).trans HT.out.cell
      have HCG := Lib.hid hcg
      rw [hval] at hen ⊢
      have HKP1 := Lib.hid (HKP.out.grown HNC.out hgr1)
      clear hf hlx hmx hrg1 hlt hg1 hnc hfi1 hgr1 hfm hfa hcell hri hval hcg c0 c1
      obtain ⟨wA, rfl⟩ : ∃ W, W = wr := ⟨wr, rfl⟩
      go_wp2_with fail
      go_loopw [5, 8, 27] (fun nv lv i wv => ∃ k : Nat, k ≤ f.rows.length ∧ i = .int .i64 k ∧ wv.ownsRow w1.heap.size 157 3 lv (keptK now keep f.rows k).length ((keptK now keep f.rows k).flatMap SRow.cells) ∧ Below w1.heap.size w1 wv ∧ nv = .int .i64 ((n0 + (k - (keptK now keep f.rows k).length) : Nat) : Int)) (fun _ _ i _ => f.rows.length - (intOf i).toNat)
      case atStart => exact ⟨0, by omega, rfl, ⟨rfl, .inl ⟨rfl, rfl⟩⟩, Below.refl _ _, by simp [keptK]⟩
      case round =>
        obtain ⟨k, hk, rfl, hol, hbv, rfl⟩ := hrel
        obtain ⟨wv, rfl⟩ : ∃ W, W = wr := ⟨wr, rfl⟩
        have HOL := Lib.hid hol
        have HBV := Lib.hid hbv
        have hkl2 := keptK_len now keep f.rows k
        obtain ⟨m, hm⟩ : ∃ m, m = (keptK now keep f.rows k).length := ⟨_, rfl⟩
        rw [← hm] at hkl2 ⊢
        have HM := Lib.hid hm
        have hszv := hbv.size
        clear hol hbv hm
        by_cases hlt : k < f.rows.length
        · obtain ⟨x1, x2, x3⟩ := HC1.out k hlt
          obtain ⟨r, hr⟩ : ∃ r, r = f.rows[k] := ⟨_, rfl⟩
          rw [← hr] at x1 x2 x3
          have hrv := HRI1.out.2 r (hr ▸ List.getElem_mem hlt)
          have hgd : f.rows.getD k zS = r := by rw [hr]; simp [List.getD, hlt]
          have HGD := Lib.hid hgd
          obtain ⟨Ad, cd, hvf, _⟩ := own_bytes (HFA.out.2.2.1 r (hr ▸ List.getElem_mem hlt)).1
          have HRC : Hid (SRow.cells r = [.int .i64 r.ver, .slice Ad r.data.length cd, .bool r.gone]) := Lib.hid (by rw [SRow.cells, hvf])
          rw [hvf] at x2
          clear hvf
          replace x1 := cell_below HBV.out x1
          replace x2 := cell_below HBV.out x2
          replace x3 := cell_below HBV.out x3
          have hbo := below_one wv (.cells #[.int .i64 r.ver, .slice Ad r.data.length cd, .bool r.gone] 157)
          have HBO := Lib.hid (below_from HBV.out hbo)
          have HOB : Hid ((wv.alloc (.cells #[.int .i64 r.ver, .slice Ad r.data.length cd, .bool r.gone] 157)).heap[wv.heap.size]? = some (.cells #[.int .i64 r.ver, .slice Ad r.data.length cd, .bool r.gone] 157 (0, 0))) := Lib.hid (heap_alloc_new wv _)
          obtain ⟨tc0, tc1⟩ : (wv.alloc (.cells #[.int .i64 r.ver, .slice Ad r.data.length cd, .bool r.gone] 157)).cell? ⟨g, 0, none⟩ = some (.int .i64 now) ∧ True := by
            have := block_below HCG.out HBO.out
            exact ⟨by simp [World.cell?, this], trivial⟩
          have HOL2 := Lib.hid (own_stay HOL.out hbo)
          have HKP2 := Lib.hid (HKP1.out.below HBO.out)
          have hszo := HBO.out.size
          clear hr hgd hbo tc1
          obtain ⟨to0, hto0⟩ : ∃ to0, to0 = toR now (f.rows.drop (k + 1)) := ⟨_, rfl⟩
          have HTO := Lib.hid hto0
          clear hto0
          go_upto_if 40 with fail
          generalize hW2 : wv.alloc (.cells #[.int .i64 r.ver, .slice Ad r.data.length cd, .bool r.gone] 157) = W2 at *
          go_cut [11] from 40 to 47 (fun tv wc => tv = .int .i64 to0 ∧ wc = W2)
          case first =>
            by_cases hk1 : k + 1 < f.rows.length
            · have d1 : decide ((k : Int) + 1 < (f.rows.length : Int)) = true := decide_eq_true (by omega)
              obtain ⟨z1, _, _⟩ := HC1.out (k + 1) hk1
              have hrv1 := HRI1.out.2 f.rows[k + 1] (List.getElem_mem hk1)
              have hto : to0 = f.rows[k + 1].ver - 1 := by rw [HTO.out, toR_at, dif_pos hk1]
              obtain ⟨v1, hv1⟩ : ∃ v1, v1 = f.rows[k + 1].ver := ⟨_, rfl⟩
              rw [← hv1] at z1 hrv1 hto
              replace z1 := cell_below HBO.out z1
              have HTO2 := Lib.hid hto
              clear hto hv1
              go_wp2_with fail
              go_meet
              case rel => exact ⟨by rw [HTO2.out], rfl⟩
            · have d1 : decide ((k : Int) + 1 < (f.rows.length : Int)) = false := decide_eq_false (by omega)
              have hto : to0 = now := by rw [HTO.out, toR_at, dif_neg hk1]
              go_wp2_with fail
              go_meet
              case rel => exact ⟨by rw [hto], rfl⟩
          case rest =>
            obtain ⟨rfl, rfl⟩ := hcut
            go_wp2_with fail
            go_loopw [12, 56] (fun nb i wz => ∃ j : Nat, j ≤ keep.length ∧ i = .int .i64 j ∧ nb = .bool (needJ now keep to0 r.ver j) ∧ Below wc.heap.size wc wz) (fun _ i _ => keep.length - (intOf i).toNat)
            case atStart => exact ⟨0, by omega, rfl, by simp [needJ], Below.refl _ _⟩
            case round =>
              obtain ⟨j, hj, rfl, rfl, hbz⟩ := hrel
              obtain ⟨wz, rfl⟩ : ∃ W, W = wr := ⟨wr, rfl⟩
              have HBZ := Lib.hid hbz
              have HOBZ := Lib.hid (block_below HOB.out hbz)
              have q1 : wz.cell? ⟨wv.heap.size, 0, none⟩ = some (.int .i64 r.ver) := by simp [World.cell?, HOBZ.out]
              obtain ⟨nj, hnj⟩ : ∃ nj, nj = needJ now keep to0 r.ver j := ⟨_, rfl⟩
              rw [← hnj]
              have HNJ := Lib.hid hnj
              clear hbz hnj
              by_cases hjl : j < keep.length
              · obtain ⟨ad, rfl, hkc⟩ := (HKP2.out.below HBZ.out) (by omega)
                have x4 := hkc j hjl
                obtain ⟨kv, hkv⟩ : ∃ kv, kv = keep[j] := ⟨_, rfl⟩
                rw [← hkv] at x4
                have hnx : needJ now keep to0 r.ver (j + 1) = (nj || (decide (r.ver ≤ kv) && decide (kv ≤ to0))) := by rw [HNJ.out, hkv]; exact needJ_on hjl
                have HNX := Lib.hid hnx
                clear hkc hkv hnx
                cases nj with
                | true =>
                  go_wp2_with fail
                  go_roundw
                  case rel => exact ⟨j + 1, by omega, by go_num, by rw [HNX.out]; first | rfl | (rw [d2, d3]; rfl) | (rw [d2]; rfl), HBZ.out⟩
                  case measure => simp [intOf]; omega
                | false =>
                  by_cases e1 : r.ver ≤ kv
                  · have d2 : decide (r.ver ≤ kv) = true := decide_eq_true e1
                    by_cases e2 : kv ≤ to0
                    · have d3 : decide (kv ≤ to0) = true := decide_eq_true e2
                      go_wp2_with fail
                      go_roundw
                      case rel => exact ⟨j + 1, by omega, by go_num, by rw [HNX.out]; first | rfl | (rw [d2, d3]; rfl) | (rw [d2]; rfl), HBZ.out⟩
                      case measure => simp [intOf]; omega
                    · have d3 : decide (kv ≤ to0) = false := decide_eq_false e2
                      go_wp2_with fail
                      go_roundw
                      case rel => exact ⟨j + 1, by omega, by go_num, by rw [HNX.out]; first | rfl | (rw [d2, d3]; rfl) | (rw [d2]; rfl), HBZ.out⟩
                      case measure => simp [intOf]; omega
                  · have d2 : decide (r.ver ≤ kv) = false := decide_eq_false e1
                    go_wp2_with fail
                    go_roundw
                    case rel => exact ⟨j + 1, by omega, by go_num, by rw [HNX.out]; first | rfl | (rw [d2, d3]; rfl) | (rw [d2]; rfl), HBZ.out⟩
                    case measure => simp [intOf]; omega
              · obtain rfl : j = keep.length := by omega
                have hnr : needR now keep r (f.rows.drop (k + 1)) = nj := by rw [HNJ.out, HTO.out]; exact needJ_all.symm
                have HKN : Hid (keptK now keep f.rows (k + 1) = keptK now keep f.rows k ++ (if nj then [r] else [])) := Lib.hid (by rw [keptK, HGD.out, hnr])
                have q2 : wz.cell? ⟨wv.heap.size, 1, none⟩ = some (.slice Ad r.data.length cd) := by simp [World.cell?, HOBZ.out]
                have q3 : wz.cell? ⟨wv.heap.size, 2, none⟩ = some (.bool r.gone) := by simp [World.cell?, HOBZ.out]
                have HBZ1 := Lib.hid (below_from HBO.out HBZ.out)
                have HOLZ := Lib.hid (own_stay HOL2.out HBZ.out)
                have hszz := HBZ1.out.size
                clear hnr
                cases nj with
                | true =>
                  have hkb : (keptK now keep f.rows k).length ≤ 90000 := by have := keptK_len now keep f.rows k; omega
                  obtain ⟨i0, hi0, hz0, hz1, hz2⟩ := info_parts infoState
                  go_wp2_with (at_builtin; go_loud (refine wpList_append_own _ rfl (.tmp 74) (.tmp 76) 107 rfl w1.heap.size 157 i0 (.agg #[.int .i64 0, .slice none 0 0, .bool false]) 3 40 Tryz.underlying107 hi0 hz0 hz1 hz2 rfl (by decide) u8 (keptK now keep f.rows k).length ((keptK now keep f.rows k).flatMap SRow.cells) (by simp [Act.eval, Act.put]) (own_stay HOLZ.out (below_one _ _)) ⟨wz.heap.size, 0, none⟩ 1 1 [.int .i64 r.ver, .slice Ad r.data.length cd, .bool r.gone] (by simp [Act.eval, Act.put]) rfl (src_three wz _ _ _ _) (fun u hu => one_three rfl hu) (by unfold maxLen; omega) (by omega) (by simp; omega) ?_); intro v4 w4 hown4 hg4 _)
                  have hbn := below_one wz (.cells #[.int .i64 r.ver, .slice Ad r.data.length cd, .bool r.gone] 157)
                  have HB4 := Lib.hid ((below_from HBZ1.out hbn).grown hg4 (below_from HBZ1.out hbn).size (fun k hk => (HOLZ.out.lt k hk).1))
                  have HOL4 := Lib.hid hown4
                  clear hown4 hg4 hbn
                  go_wp2_with fail
                  go_roundw
                  case rel => exact ⟨k + 1, by omega, by go_num, by rw [HKN.out]; simpa [HRC.out] using HOL4.out, HB4.out, by rw [HKN.out]; simp [← HM.out]⟩
                  case measure => simp [intOf]; omega
                | false =>
                  go_wp2_with fail
                  go_roundw
                  case rel => exact ⟨k + 1, by omega, by go_num, by rw [HKN.out]; simpa using HOLZ.out, HBZ1.out, by rw [HKN.out]; simp [← HM.out]; omega⟩
                  case measure => simp [intOf]; omega
        · obtain rfl : k = f.rows.length := by omega
          have hkr : keptK now keep f.rows f.rows.length = keptR now keep f.rows := keptK_all _ _ _
          have HOFF : Hid (OffRow wv w1.heap.size 157 3 u8 (keptR now keep f.rows).length ((keptR now keep f.rows).flatMap SRow.cells)) := Lib.hid (OffRow.of (hkr ▸ HOL.out))
          have HMK : Hid (m = (keptR now keep f.rows).length) := Lib.hid (hkr ▸ HM.out)
          have hkey := keyOf_string_mk (P := Tryz.prog) Tryz.underlying9 hxm
          clear hkr
          go_wp2_with fail
          go_loopw [5, 8] (fun nv lv wz => ∃ lst : List SRow, (keptR now keep f.rows).dropWhile SRow.gone = lst.dropWhile SRow.gone ∧ lst.length ≤ m ∧ OffRow wz w1.heap.size 157 3 lv lst.length (lst.flatMap SRow.cells) ∧ Below wv.heap.size wv wz ∧ nv = .int .i64 ((n0 + (f.rows.length - lst.length) : Nat) : Int)) (fun _ lv _ => match lv with | .slice _ n _ => n | _ => 0)
          case atStart => exact ⟨keptR now keep f.rows, rfl, Nat.le_of_eq HMK.out.symm, HOFF.out, Below.refl _ _, by rw [HMK.out]⟩
          case round =>
            obtain ⟨lst, hdw, hll, hor, hbz, rfl⟩ := hrel
            obtain ⟨wz, rfl⟩ : ∃ W, W = wr := ⟨wr, rfl⟩
            have HDW := Lib.hid hdw
            have HBZ := Lib.hid (below_from HBV.out hbz)
            have HBVZ := Lib.hid hbz
            have HOZ := Lib.hid hor
            have hcz := block_below HCG.out HBZ.out
            have tc0 : wz.cell? ⟨g, 0, none⟩ = some (.int .i64 now) := by simp [World.cell?, hcz]
            have tc1 : wz.cell? ⟨g, 1, none⟩ = some (.map (some b)) := by simp [World.cell?, hcz]
            clear hdw hor hbz hcz
            cases lst with
            | nil =>
              obtain ⟨Az, cz, rfl, _, _⟩ := HOZ.out.slice
              have hfr : forgetR now keep f.rows = [] := by
                unfold forgetR
                rw [HDW.out]
                rfl
              have hem : (forgetR now keep f.rows).isEmpty = true := by rw [hfr]; rfl
              have hlks := fun kl => (look_step (left := left) (V := V) HT.out.once HF.out (.slice Az 0 cz) kl).2 hem
              have hrgz := HRG1.out.below HBZ.out
              obtain ⟨w5, hrun5, hrg5, hg5⟩ := hrgz.store strKeyed Tryz.underlying104 (key := .string x) (.slice Az 0 cz) hkey (by
                have e := fileOf_step (now := (now : Int)) (keep := keep) (left := left) (V := V) HT.out.once x
                rw [HF.out] at e
                have e2 : lookF (stepF now keep left V F) (keyS x) = some f.val := by
                  rw [lookF_key, e]
                  show Option.map FileS.val (stepOne now keep left V f) = _
                  rw [stepOne_left (by rw [hfp]; exact HLX.out)]
                  rfl
                show (lookF (stepF now keep left V F) (keyS x)).isSome = true
                rw [e2]
                rfl)
              obtain ⟨w6, cnt6, hrun6, hrg6, hle6, hg6⟩ := hrg5.drop strKeyed Tryz.underlying104 (key := .string x) hkey 0
              have HRG6 := Lib.hid (hrg6.congr hlks (Maps.strike_twice left (keyS x)))
              obtain ⟨es, ck, hmz⟩ := hrgz.map.isMap
              obtain ⟨es5, ck5, hm5⟩ := hrg5.map.isMap
              have hfi := ((step_next (v := .slice Az 0 cz) HT.out.once HF.out HLX.out HFI1.out HBZ.out (Nat.le_trans hbase hsz1) (by rw [hfr]; exact HOZ.out)).mapped hmz hg5).mapped hm5 hg6
              have HFI5 := Lib.hid hfi
              have hgr5 := World.grownBy.andThen (HGR1.out.andThen (grown_of_below HBZ.out) (fun j hj => by cases hj)) hg5 (fun j hj => .inr hj)
              have tc5 : w5.cell? ⟨g, 1, none⟩ = some (.map (some b)) := cell_grown hrgz.no_cells.2 hg5 tc1
              have HGR5 := Lib.hid (hgr5.andThen hg6 (fun j hj => .inr hj))
              have HMEAS : Hid (w6.rangeLeft b w.heap.size < wA.rangeLeft b w.heap.size) := Lib.hid (by rw [hrg6.left_eq]; exact Nat.lt_of_le_of_lt hle6 HLT.out)
              have HGN : Hid (goneN now keep F (nextL left x) = n0 + (f.rows.length - 0)) := Lib.hid (by
                rw [goneN_next HT.out.once (List.mem_map.2 ⟨f, HFM.out, hfp⟩) HLX.out, ← HN0.out, dropN, ← hfp, rowsOf_mem HT.out.once HFM.out, hfr]
                rfl)
              clear hlks hrgz hrg5 hmz hfi hg5 hfr hem hrg6 hg6 hm5 hgr5
              go_wp2_with fail
              go_roundw
              case rel => exact ⟨nextL left x, cnt6, nextV V x (.slice Az 0 cz), HRG6.out, HFI5.out, HGR5.out, vnew_next HVN.out (fun k hk => Nat.le_trans hsz1 (HOZ.out.lt k hk).1), by rw [HGN.out]; rfl⟩
              case measure => exact HMEAS.out
            | cons r0 rest =>
              obtain ⟨gz, oz, capz, rfl, _, _, _, hcell⟩ := HOZ.out.form (by simp)
              have q3 : wz.cell? ⟨gz, oz + 2, none⟩ = some (.bool r0.gone) := hcell 2 (by simp; omega)
              clear hcell
              have hlr : (r0 :: rest).length = rest.length + 1 := rfl
              rw [hlr] at hll ⊢
              cases hg0 : r0.gone with
              | true =>
                rw [hg0] at q3
                have htl := (show OffRow wz w1.heap.size 157 3 (.slice (some ⟨gz, oz, none⟩) (rest.length + 1) capz) (rest.length + 1) (SRow.cells r0 ++ rest.flatMap SRow.cells) from HOZ.out).tail rfl
                have HTL := Lib.hid htl
                have HDW2 : Hid ((keptR now keep f.rows).dropWhile SRow.gone = rest.dropWhile SRow.gone) := Lib.hid (HDW.out.trans (by rw [List.dropWhile_cons, hg0]; rfl))
                clear htl
                by_cases hcap : capz = 1
                · subst hcap
                  go_wp2_with fail
                  go_roundw
                  case rel => exact ⟨rest, HDW2.out, by omega, HTL.out.1 rfl, HBVZ.out, by go_num⟩
                  case measure => simp
                · go_wp2_with fail
                  go_roundw
                  case rel => exact ⟨rest, HDW2.out, by omega, HTL.out.2 hcap, HBVZ.out, by go_num⟩
                  case measure => simp
              | false =>
                rw [hg0] at q3
                have hfr : forgetR now keep f.rows = r0 :: rest := by
                  unfold forgetR
                  rw [HDW.out, List.dropWhile_cons, hg0]
                  rfl
                have hem : (forgetR now keep f.rows).isEmpty = false := by rw [hfr]; rfl
                have hlks := fun kl => (look_step (left := left) (V := V) HT.out.once HF.out (.slice (some ⟨gz, oz, none⟩) (rest.length + 1) capz) kl).1 hem
                have hrgz := HRG1.out.below HBZ.out
                obtain ⟨w5, hrun5, hrg5, hg5⟩ := hrgz.store strKeyed Tryz.underlying104 (key := .string x) (.slice (some ⟨gz, oz, none⟩) (rest.length + 1) capz) hkey (by
                  have e := fileOf_step (now := (now : Int)) (keep := keep) (left := left) (V := V) HT.out.once x
                  rw [HF.out] at e
                  have e2 : lookF (stepF now keep left V F) (keyS x) = some f.val := by
                    rw [lookF_key, e]
                    show Option.map FileS.val (stepOne now keep left V f) = _
                    rw [stepOne_left (by rw [hfp]; exact HLX.out)]
                    rfl
                  show (lookF (stepF now keep left V F) (keyS x)).isSome = true
                  rw [e2]
                  rfl)
                have HRG5 := Lib.hid (hrg5.congr hlks rfl)
                obtain ⟨es, ck, hmz⟩ := hrgz.map.isMap
                have hfi := (step_next (v := .slice (some ⟨gz, oz, none⟩) (rest.length + 1) capz) HT.out.once HF.out HLX.out HFI1.out HBZ.out (Nat.le_trans hbase hsz1) (by rw [hfr]; exact HOZ.out)).mapped hmz hg5
                have HFI5 := Lib.hid hfi
                have HGR5 := Lib.hid (World.grownBy.andThen (HGR1.out.andThen (grown_of_below HBZ.out) (fun j hj => by cases hj)) hg5 (fun j hj => .inr hj))
                have HMEAS : Hid (w5.rangeLeft b w.heap.size < wA.rangeLeft b w.heap.size) := Lib.hid (by rw [hrg5.left_eq]; exact HLT.out)
                have HGN : Hid (goneN now keep F (nextL left x) = n0 + (f.rows.length - (rest.length + 1))) := Lib.hid (by
                  rw [goneN_next HT.out.once (List.mem_map.2 ⟨f, HFM.out, hfp⟩) HLX.out, ← HN0.out, dropN, ← hfp, rowsOf_mem HT.out.once HFM.out, hfr]
                  rfl)
                clear hlks hrgz hrg5 hmz hfi hg5 hfr hem
                go_wp2_with fail
                go_roundw
                case rel => exact ⟨nextL left x, cnt1, nextV V x (.slice (some ⟨gz, oz, none⟩) (rest.length + 1) capz), HRG5.out, HFI5.out, HGR5.out, vnew_next HVN.out (fun k hk => Nat.le_trans hsz1 (HOZ.out.lt k hk).1), by rw [HGN.out]⟩
                case measure => exact HMEAS.out
end Go.Proofs.YtlidenehfmlebaaGreatDoor

namespace Go.Proofs.YtlidenehfmlebaaGreatDoor
open Go.RowKit Go.Maps Go.WideMaps Go.WideAt
/-- A store's own blocks, but for its data. -/
def SBk (s g b pm : Nat) (F : List FileS) (k : Nat) : Prop := k = s ∨ k = pm ∨ TBk g b F k
/-- All blocks but the store's own stay; new rows lie in new blocks or where elder ones lay. -/
structure SFB (s g b pm : Nat) (F F' : List FileS) (w w' : World) : Prop where
  fr : FrB (SBk s g b pm F) w w'
  sub : SubF w.heap.size F F'
theorem SFB.of_below {s g b pm : Nat} {F : List FileS} {w w' : World} (h : Below w.heap.size w w') : SFB s g b pm F F w w' := ⟨FrB.of_below h, SubF.refl _ _⟩
theorem SFB.trans {s g b pm : Nat} {F F1 F2 : List FileS} {w w1 w2 : World} (h1 : SFB s g b pm F F1 w w1) (h2 : SFB s g b pm F1 F2 w1 w2) : SFB s g b pm F F2 w w2 := by
  have hz := h1.fr.size
  refine ⟨h1.fr.trans h2.fr (fun k hk h => ?_), fun f hf k hk hlt => ?_⟩
  · rcases h with h | h | h | h | ⟨f, hf, h⟩
    · exact .inl h
    · exact .inr (.inl h)
    · exact .inr (.inr (.inl h))
    · exact .inr (.inr (.inr (.inl h)))
    · exact .inr (.inr (.inr (.inr (h1.sub f hf k h hk))))
  · obtain ⟨f1, hf1, h⟩ := h2.sub f hf k hk (by omega)
    exact h1.sub f1 hf1 k h hlt
theorem SFB.of_pm {s g b pm : Nat} {F : List FileS} {w w' : World} (h : w.grownBy w' (some pm)) : SFB s g b pm F F w w' := ⟨FrB.of_grown h (fun k hk _ => .inr (.inl (Option.some.inj hk).symm)), SubF.refl _ _⟩
theorem SFB.of_set {s g b pm n : Nat} {F : List FileS} (w : World) (v : Value) : SFB s g b pm F F w (w.setCell ⟨s, n, none⟩ v) := ⟨FrB.set v (.inl rfl), SubF.refl _ _⟩
theorem SFB.of_forget {s g b pm : Nat} {F F' : List FileS} {w w' : World} (h : w.grownBy w' (some b)) (hn : ∀ f ∈ F', ∀ k, f.val.ownBlock = some k → w.heap.size ≤ k) : SFB s g b pm F F' w w' :=
  ⟨FrB.of_grown h (fun k hk _ => .inr (.inr (.inr (.inl (Option.some.inj hk).symm)))), fun f hf k hk hlt => by have := hn f hf k hk; omega⟩
theorem SFB.of_commit {s g b pm : Nat} {F F' : List FileS} {w w' : World} (h : FrB (TBk g b F) w w') (hs : SubF w.heap.size F F') : SFB s g b pm F F' w w' := ⟨h.mono (fun k _ h => .inr (.inr h)), hs⟩
/-- A store's own blocks: what they are. -/
theorem StoreAt.own {w : World} {base s g b pm now : Nat} {F : List FileS} {L : List Int} (h : StoreAt w base s g b pm now F L) {k : Nat} (hk : SBk s g b pm F k) : ∃ o, w.heap[k]? = some o ∧ ∀ cs t fr, o = Obj.cells cs t fr → t = 46 ∨ t = 106 ∨ t = 157 := by
  rcases hk with rfl | rfl | rfl | rfl | ⟨f, hf, hk⟩
  · exact ⟨_, h.cell, fun cs t fr e => by injection e with _ e; exact .inl e.symm⟩
  · obtain ⟨m, hm, _⟩ := h.pins
    obtain ⟨es, ck, e⟩ := hm.isMap
    exact ⟨_, e, fun cs t fr e => by cases e⟩
  · exact ⟨_, h.tree.cell, fun cs t fr e => by injection e with _ e; exact .inr (.inl e.symm)⟩
  · obtain ⟨es, ck, e⟩ := h.tree.map.isMap
    exact ⟨_, e, fun cs t fr e => by cases e⟩
  · obtain ⟨cur, hc⟩ := (h.tree.files f hf).1.blk k hk
    exact ⟨_, hc, fun cs t fr e => by injection e with _ e; exact .inr (.inr e.symm)⟩
theorem StoreAt.not_own {w : World} {base s g b pm now : Nat} {F : List FileS} {L : List Int} (h : StoreAt w base s g b pm now F L) {k : Nat} {cs : Array Value} {t : TypeId} {fr : Nat × Nat} (hk : w.heap[k]? = some (Obj.cells cs t fr)) (h1 : t ≠ 46) (h2 : t ≠ 106) (h3 : t ≠ 157) : ¬ SBk s g b pm F k := fun hs => by
  obtain ⟨o, ho, hne⟩ := h.own hs
  rw [hk] at ho
  injection ho with ho
  rcases hne _ _ _ ho.symm with e | e | e
  · exact h1 e
  · exact h2 e
  · exact h3 e
theorem StoreAt.own_lt {w : World} {base s g b pm now : Nat} {F : List FileS} {L : List Int} (h : StoreAt w base s g b pm now F L) {k : Nat} (hk : SBk s g b pm F k) : k < w.heap.size := by
  obtain ⟨o, ho, _⟩ := h.own hk
  exact lt_of_block ho
/-- Two stores that have no block in common. -/
def Dis (s g b pm : Nat) (F : List FileS) (s' g' b' pm' : Nat) (F' : List FileS) : Prop := ∀ k, SBk s g b pm F k → ¬ SBk s' g' b' pm' F' k
theorem Dis.symm {s g b pm : Nat} {F : List FileS} {s' g' b' pm' : Nat} {F' : List FileS} (h : Dis s g b pm F s' g' b' pm' F') : Dis s' g' b' pm' F' s g b pm F := fun k h1 h2 => h k h2 h1
/-- What is done to the one turns nothing of the other. -/
theorem StoreAt.other2 {w w' : World} {base s g b pm now : Nat} {F F1 : List FileS} {L : List Int} {base' s' g' b' pm' now' : Nat} {F' : List FileS} {L' : List Int} (h : StoreAt w base s g b pm now F L) (h' : StoreAt w base' s' g' b' pm' now' F' L')
    (hd : Dis s g b pm F s' g' b' pm' F') (hf : SFB s g b pm F F1 w w') : StoreAt w' base' s' g' b' pm' now' F' L' ∧ Dis s g b pm F1 s' g' b' pm' F' := by
  have hn : ∀ k, SBk s' g' b' pm' F' k → ¬ SBk s g b pm F k := fun k h1 h2 => hd k h2 h1
  have h8 : ∀ k cs fr, w.heap[k]? = some (Obj.cells cs 5 fr) → ¬ SBk s g b pm F k := fun k cs fr hk => h.not_own hk (by decide) (by decide) (by decide)
  have ht := h'.tree
  obtain ⟨m, hm, hp⟩ := h'.pins
  refine ⟨⟨hf.fr.at_ h'.cell (hn _ (.inl rfl)), h'.hs, h'.hp, h'.ne, ⟨hf.fr.at_ ht.cell (hn _ (.inr (.inr (.inl rfl)))), ht.hg, ht.hb, hf.fr.mapAs ht.map (hn _ (.inr (.inr (.inr (.inl rfl))))), ht.once, ht.apart, fun f hff => ?_⟩, m, hf.fr.mapAs hm (hn _ (.inr (.inl rfl))), hp⟩, fun k hk hk' => ?_⟩
  · have hfa := ht.files f hff
    exact ⟨hf.fr.off hfa.1 (fun k hk => hn _ (.inr (.inr (.inr (.inr ⟨f, hff, hk⟩))))), hfa.2.1, fun r hr => ⟨hf.fr.own (hfa.2.2.1 r hr).1 (fun k hk => by
      rcases (hfa.2.2.1 r hr).1.2 with ⟨e, _⟩ | ⟨k2, cap, cur, e, _, hh, _⟩
      · rw [e] at hk; simp [Value.ownBlock] at hk
      · rw [e] at hk
        have : k2 = k := by simpa [Value.ownBlock] using hk
        subst this
        exact h8 _ _ _ hh), (hfa.2.2.1 r hr).2⟩, hfa.2.2.2⟩
  · have hlt := h'.own_lt hk'
    have hk2 : SBk s g b pm F k := by
      rcases hk with h | h | h | h | ⟨f, hff, h⟩
      · exact .inl h
      · exact .inr (.inl h)
      · exact .inr (.inr (.inl h))
      · exact .inr (.inr (.inr (.inl h)))
      · exact .inr (.inr (.inr (.inr (hf.sub f hff k h hlt))))
    exact hd k hk2 hk'
def TidyPostB (s g b pm now : Nat) (F : List FileS) (L : List Int) (base : Nat) (w : World) (e : Ending) (w' : World) : Prop :=
  ∃ F', e = .returned (.tuple #[]) ∧ Forgot now L F F' ∧ mapN F' ≤ mapN F ∧ StoreAt w' base s g b pm now F' L ∧ Below base w w' ∧ SFB s g b pm F F' w w'
set_option maxRecDepth 100000 in
set_option maxHeartbeats 4000000 in
theorem tidy_anyB (s g b pm now : Nat) (F : List FileS) (L : List Int) (w : World) {base : Nat} (hL : L.length ≤ 1000) (hm : mapN F ≤ 90000) (hnow : now ≤ 2097152) (hrise : RiseF now F) (hbase : base ≤ w.heap.size) (hst : StoreAt w base s g b pm now F L) :
    Calls Tryz.prog 46 #[.pointer (some ⟨s, 0, none⟩)] w (TidyPostB s g b pm now F L base w) := by
  have hbd : Below w.heap.size w w.drew := Below.drew (Below.refl _ _)
  have HSD := Lib.hid (hst.below hbd)
  have HBD := Lib.hid hbd
  have c0 := (store_cells hst).1
  have HRI := Lib.hid hrise
  clear hst hrise hbd
  go_enter Tryz.func46, Tryz.ntmps46
  go_wp2_with fail
  go_region_with (first
    | (go_at_call 13
       refine (pinned_any s g b pm now F L w.drew (by omega) HSD.out).mono ?_
       rintro e w2 ⟨A, c, K, rfl, hso, hkl, how, hb2⟩
       have hs2 := HSD.out.below hb2
       have x0 := (store_cells hs2).1
       have HB2 := Lib.hid (below_from HBD.out hb2)
       have HS2 := Lib.hid hs2
       have HSO := Lib.hid hso
       have HIR : Hid (IntRow w2 A K) := Lib.hid (by
         obtain ⟨A', c', e1, _, h1⟩ := own_intRow how
         injection e1 with e1
         rw [e1]
         exact h1)
       clear hs2 hso how hb2)
    | (go_at_call 69
       refine (forget_anyB g b now A c K F w2 (by omega) HIR.out (HS2.out.tree.small hm).2 (HS2.out.tree.small hm).1 HRI.out hnow HS2.out.tree (Nat.le_trans hbase HB2.out.size)).mono ?_
       rintro e w3 ⟨F', n, rfl, hn, hf, ht, hg, hnw⟩))
  all_goals
    go_wp2_with fail
    go_end0
    have hB : Below base w w3 := (HB2.out.mono hbase).grown hg (Nat.le_trans hbase HB2.out.size) (fun j hj => by injection hj with hj; rw [← hj]; exact HS2.out.tree.hb)
    exact ⟨F', rfl, hf.congr HSO.out.mem, by omega, HS2.out.forgot ht hg, hB, (SFB.of_below HB2.out).trans (SFB.of_forget hg hnw)⟩
/-- What Commit comes to: refused, or made, and tidied. -/
def SCommitPostB (s g b pm now : Nat) (l : List ChgD) (F : List FileS) (L : List Int) (base : Nat) (w : World) (e : Ending) (w' : World) : Prop :=
  (chkT now F l ≠ .nil ∧ ∃ t v, e = .returned (.tuple #[.int .i64 0, .iface t v]) ∧ ErrV w' (.iface t v) (chkT now F l) ∧ StoreAt w' base s g b pm now F L ∧ Below w.heap.size w w') ∨
  (chkT now F l = .nil ∧ ∃ B F1 F', e = .returned (.tuple #[.int .i64 ((now : Int) + 1), .nilIface]) ∧ Puts (now + 1) B F l F1 ∧ Forgot ((now + 1 : Nat) : Int) L F1 F' ∧ mapN F' ≤ mapN F + l.length ∧ StoreAt w' base s g b pm (now + 1) F' L ∧ Below base w w' ∧ SFB s g b pm F F' w w')
set_option maxRecDepth 100000 in
set_option maxHeartbeats 4000000 in
theorem scommit_anyB (s g b pm now : Nat) (A : Option Addr) (c : Nat) (l : List ChgD) (F : List FileS) (L : List Int) (w : World) {base : Nat} (hL : L.length ≤ 1000) (hl : l.length ≤ 1000) (hlr : ∀ W, Below base w W → TFrame b w W → ChgRow W A l) (hgood : ∀ x ∈ l, GoodC x) (hm : mapN F ≤ 80000) (hnow : now ≤ 1048576) (hrise : RiseF now F) (hbase : base ≤ w.heap.size) (hst : StoreAt w base s g b pm now F L) (hg : EnvM w) :
    Calls Tryz.prog 19 #[.pointer (some ⟨s, 0, none⟩), .slice A l.length c] w (SCommitPostB s g b pm now l F L base w) := by
  have c0 := (store_cells hst).1
  have hsm := hst.tree.small hm
  have HCA := Lib.hid (commit_anyB g b now A c l F w hl hlr hgood (fun f hf => Nat.le_trans (hsm.2 f hf) (by omega)) (Nat.le_trans hsm.1 (by omega)) hnow hst.tree hbase hg)
  have HST := Lib.hid hst
  have HRI := Lib.hid hrise
  clear hlr hgood hst hg hrise hsm
  go_enter Tryz.func19, Tryz.ntmps19
  go_wp2_with fail
  refine HCA.out.mono ?_
  intro e w1 hp
  rcases hp with ⟨hno, t, v, rfl, hev, ht, hb⟩ | ⟨hc, F1, rfl, hpu, ht, hb, hf, hfr, hsb⟩
  · have HNO := Lib.hid hno
    have HEV := Lib.hid hev
    have HB := Lib.hid hb
    clear hno hev ht hb
    go_wp2_with fail
    go_ret2
    exact .inl ⟨HNO.out, t, v, rfl, HEV.out, HST.out.below HB.out, HB.out⟩
  · have hs1 := HST.out.committed ht hf
    have hri1 := (rise_puts hpu HRI.out (chkT_once hc).1).1
    have hsz := (puts_size hpu HST.out.tree.once).1
    have HS1 := Lib.hid hs1
    have HRI1 := Lib.hid hri1
    have HC := Lib.hid hc
    have HPU := Lib.hid hpu
    have HB := Lib.hid hb
    have HF := Lib.hid (SFB.of_commit (s := s) (pm := pm) hfr hsb)
    have hbs := hb.size
    have hm1 : mapN F1 ≤ 90000 := by omega
    have HSZ := Lib.hid hsz
    clear hs1 hri1 hsz hc hpu ht hb hf hfr hsb
    go_wp2_with fail
    refine (tidy_anyB s g b pm (now + 1) F1 L w1 hL hm1 (by omega) HRI1.out (Nat.le_trans hbase hbs) HS1.out).mono ?_
    rintro e w2 ⟨F', rfl, hfo, hle, hs2, hb2, hf2⟩
    have HFO := Lib.hid hfo
    have HS2 := Lib.hid hs2
    have HB2 := Lib.hid (HB.out.trans hb2)
    have HF2 := Lib.hid (HF.out.trans hf2)
    have HLE := Lib.hid hle
    clear hfo hs2 hb2 hf2 hle
    go_wp2_with fail
    go_ret2
    exact .inr ⟨HC.out, _, F1, F', rfl, HPU.out, HFO.out, by have := HLE.out; have := HSZ.out; omega, HS2.out, HB2.out, HF2.out⟩
end Go.Proofs.YtlidenehfmlebaaGreatDoor

namespace Go.Proofs.YtlidenehfmlebaaGreatDoor
open Go.RowKit Go.Maps Go.WideMaps Go.WideAt
def PinPostB (s g b pm now : Nat) (F : List FileS) (L : List Int) (base : Nat) (w : World) (e : Ending) (w' : World) : Prop :=
  (L.length = 64 ∧ e = .returned (.tuple #[.int .i64 0, .int .i64 3]) ∧ Below w.heap.size w w') ∨
  (L.length ≠ 64 ∧ e = .returned (.tuple #[.int .i64 now, .int .i64 0]) ∧ StoreAt w' base s g b pm now F (L ++ [(now : Int)]) ∧ Below base w w' ∧ SFB s g b pm F F w w')
set_option maxRecDepth 100000 in
set_option maxHeartbeats 4000000 in
theorem pin_anyB (s g b pm now : Nat) (F : List FileS) (L : List Int) (w : World) {base : Nat} (hL : L.length ≤ 100000) (hnow : now ≤ 2097152) (hbase : base ≤ w.heap.size) (hst : StoreAt w base s g b pm now F L) :
    Calls Tryz.prog 29 #[.pointer (some ⟨s, 0, none⟩)] w (PinPostB s g b pm now F L base w) := by
  obtain ⟨c0, c1, c2⟩ := store_cells hst
  have HST := Lib.hid hst
  by_cases h64 : L.length = 64
  · have d1 : (((L.length : Nat) : Int) == 64) = true := by rw [h64]; rfl
    have H64 := Lib.hid h64
    clear h64 hst
    go_enter Tryz.func29, Tryz.ntmps29
    go_wp2_with fail
    go_ret2
    exact .inl ⟨H64.out, rfl, Below.refl _ _⟩
  · have d1 : (((L.length : Nat) : Int) == 64) = false := by rw [beq_eq_false_iff_ne]; omega
    have f2 : w.frozen? ⟨s, 2, none⟩ = false := frozen_of_row w s 2 _ _ hst.cell
    obtain ⟨z1, z2, z3, z4, z5, z6⟩ := store_set hst ((L.length : Int) + 1) hbase
    obtain ⟨m, hm, hp⟩ := hst.pins
    have HZ1 := Lib.hid z1
    have HZ2 := Lib.hid z2
    have HZ3 := Lib.hid (SFB.of_set (s := s) (g := g) (b := b) (pm := pm) (F := F) (n := 2) w (.int .i64 ((L.length : Int) + 1)))
    have HZ4 := Lib.hid z4
    have HM := Lib.hid (z5 m _ hm)
    have HP := Lib.hid hp
    have H64 := Lib.hid h64
    have hne := hst.ne
    have hbp := hst.hp
    have hkey := keyOf_int_mk (P := Tryz.prog) Tryz.underlying3 (a := (now : Int)) (by simp [Lit.wf, IntKind.min, IntKind.max, IntKind.signed, IntKind.bits]; omega)
    have hcnt : L.count (now : Int) ≤ 100000 := Nat.le_trans List.count_le_length hL
    clear z1 z2 z3 z4 z5 z6 hm hp h64 hst
    go_enter Tryz.func29, Tryz.ntmps29
    go_wp2_with fail
    generalize hW1 : w.setCell ⟨s, 2, none⟩ (.int .i64 ((L.length : Int) + 1)) = W1 at *
    have y0 : W1.cell? ⟨s, 0, none⟩ = some (.pointer (some ⟨g, 0, none⟩)) := by simp [World.cell?, HZ1.out]
    have y1 : W1.cell? ⟨s, 1, none⟩ = some (.map (some pm)) := by simp [World.cell?, HZ1.out]
    have hbd : Below W1.heap.size W1 W1.drew := Below.drew (Below.refl _ _)
    have hbd2 := hbd
    have HBD2 := Lib.hid hbd2
    have HTD := Lib.hid (HZ4.out.below hbd)
    have HMD := Lib.hid (HM.out.below hbd)
    have hlook : (Instr.lookup 44 (.map (some pm)) (.int .i64 now) false).run Tryz.prog W1.drew = .ok (.int .i64 ((L.count (now : Int) : Nat) : Int)) W1.drew := by
      rw [HMD.out.look intKeyed Tryz.underlying44 (zeroIntV W1.drew) (key := .int .i64 now) hkey]
      exact congrArg (fun v => Result.ok v W1.drew) (HP.out.get now)
    obtain ⟨w2, hrun2, hm2, hg2⟩ := HMD.out.store intKeyed Tryz.underlying44 (by unfold maxLen; omega) (key := .int .i64 now) (.int .i64 (((L.count (now : Int) : Nat) : Int) + 1)) hkey
    have HM2 := Lib.hid hm2
    have HG2 := Lib.hid hg2
    have hwrap : IntKind.i64.wrap (((L.count (now : Int) : Nat) : Int) + 1) = ((L.count (now : Int) : Nat) : Int) + 1 := IntWalk.i64_in _ (by omega)
    clear hm2 hg2 hW1 c0 c1 c2 hbd hbd2
    obtain ⟨es, ck, hmp⟩ := HMD.out.isMap
    have hB2 : Below base w w2 := (HZ2.out.drew).grown HG2.out (by have := HZ2.out.size; show base ≤ W1.heap.size; omega) (fun j hj => by injection hj with hj; omega)
    have hF2 : SFB s g b pm F F w w2 := (HZ3.out.trans (SFB.of_below HBD2.out)).trans (SFB.of_pm HG2.out)
    have hT2 := HTD.out.map_other hmp hne HG2.out
    have HB2 := Lib.hid hB2
    have HF2 := Lib.hid hF2
    have HT2 := Lib.hid hT2
    have HS2 : Hid (StoreAt w2 base s g b pm now F (L ++ [(now : Int)])) := Lib.hid ⟨by
        have h1 := HZ1.out
        have hlen : (L ++ [(now : Int)]).length = L.length + 1 := by simp
        have e1 : (((L ++ [(now : Int)]).length : Nat) : Int) = (L.length : Int) + 1 := by rw [hlen]; omega
        rw [e1]
        refine (HG2.out.block s (lt_of_block h1) (fun e => ?_)).trans h1
        injection e with e
        exact map_noCells hmp _ _ _ (by rw [← e]; exact h1), HST.out.hs, HST.out.hp, hne, hT2, _, HM2.out.mono (by simp), HP.out.put now⟩
    have x0 := (store_cells HS2.out).1
    clear hmp hB2 hF2 hT2 f2
    go_region_with (go_at_call 11; refine (now_any g b now F W1.drew HTD.out).mono ?_; rintro e w' ⟨rfl, rfl⟩)
    all_goals
      clear hwrap hlook hrun2 y0 y1
      go_wp2_with fail
      refine (now_any g b now F w2 HT2.out).mono ?_
      rintro e w3 ⟨rfl, rfl⟩
      go_wp2_with fail
      go_ret2
      exact .inr ⟨H64.out, rfl, HS2.out, HB2.out, HF2.out⟩
def UnpinPostB (s g b pm now : Nat) (F : List FileS) (L : List Int) (v : Int) (base : Nat) (w : World) (e : Ending) (w' : World) : Prop :=
  (v ∉ L ∧ e = .returned (.int .i64 4) ∧ Below w.heap.size w w') ∨
  (v ∈ L ∧ ∃ F', e = .returned (.int .i64 0) ∧ (v ∈ L.erase v → F' = F) ∧ (v ∉ L.erase v → Forgot now (L.erase v) F F') ∧ mapN F' ≤ mapN F ∧ StoreAt w' base s g b pm now F' (L.erase v) ∧ Below base w w' ∧ SFB s g b pm F F' w w')
set_option maxRecDepth 100000 in
set_option maxHeartbeats 4000000 in
theorem unpin_anyB (s g b pm now : Nat) (F : List FileS) (L : List Int) (v : Int) (w : World) {base : Nat} (hv : (Lit.int .i64 v).wf = true) (hL : L.length ≤ 1000) (hm : mapN F ≤ 90000) (hnow : now ≤ 2097152) (hrise : RiseF now F) (hbase : base ≤ w.heap.size) (hst : StoreAt w base s g b pm now F L) :
    Calls Tryz.prog 30 #[.pointer (some ⟨s, 0, none⟩), .int .i64 v] w (UnpinPostB s g b pm now F L v base w) := by
  obtain ⟨c0, c1, c2⟩ := store_cells hst
  obtain ⟨m, hm0, hp⟩ := hst.pins
  have hkey := keyOf_int_mk (P := Tryz.prog) Tryz.underlying3 (a := v) hv
  have hlook := hm0.look intKeyed Tryz.underlying44 (zeroIntV w) (key := .int .i64 v) hkey
  have hlk : (m (Lit.int .i64 v)).getD (.int .i64 0) = .int .i64 ((L.count v : Nat) : Int) := hp.get v
  rw [hlk] at hlook
  clear hlk
  by_cases hvL : v ∈ L
  · have hc : 0 < L.count v := List.count_pos_iff.2 hvL
    have hcl : L.count v ≤ 1000 := Nat.le_trans List.count_le_length hL
    have hlp := List.length_pos_of_mem hvL
    have d1 : (((L.count v : Nat) : Int) == 0) = false := by rw [beq_eq_false_iff_ne]; omega
    have f2 : w.frozen? ⟨s, 2, none⟩ = false := frozen_of_row w s 2 _ _ hst.cell
    obtain ⟨z1, z2, z3, z4, z5, z6⟩ := store_set hst ((L.length : Int) - 1) hbase
    have hm1 := z5 m _ hm0
    have hlook1 := hm1.look intKeyed Tryz.underlying44 (zeroIntV _) (key := .int .i64 v) hkey
    have hlk : (m (Lit.int .i64 v)).getD (.int .i64 0) = .int .i64 ((L.count v : Nat) : Int) := hp.get v
    rw [hlk] at hlook1
    obtain ⟨w2, hrun2, hm2, hg2⟩ := hm1.store intKeyed Tryz.underlying44 (by unfold maxLen; omega) (key := .int .i64 v) (.int .i64 (((L.count v : Nat) : Int) - 1)) hkey
    obtain ⟨es, ck, hmp⟩ := hm1.isMap
    have hlook2 := hm2.look intKeyed Tryz.underlying44 (zeroIntV _) (key := .int .i64 v) hkey
    have hup : (upd m (Lit.int .i64 v) (.int .i64 (((L.count v : Nat) : Int) - 1)) (Lit.int .i64 v)).getD (.int .i64 0) = .int .i64 (((L.count v : Nat) : Int) - 1) := by
      rw [upd_same (kl := Lit.int .i64 v) trivial]; rfl
    rw [hup] at hlook2
    obtain ⟨es2, ck2, hmp2⟩ := hm2.isMap
    have hcell2 : w2.heap[s]? = some (Obj.cells #[.pointer (some ⟨g, 0, none⟩), .map (some pm), .int .i64 ((L.length : Int) - 1)] 46 (0, 0)) := (hg2.block s (lt_of_block z1) (fun e => by
      injection e with e
      exact map_noCells hmp _ _ _ (by rw [← e]; exact z1))).trans z1
    have y0 : (w.setCell ⟨s, 2, none⟩ (.int .i64 ((L.length : Int) - 1))).cell? ⟨s, 1, none⟩ = some (.map (some pm)) := by simp [World.cell?, z1]
    have y1 : w2.cell? ⟨s, 1, none⟩ = some (.map (some pm)) := by simp [World.cell?, hcell2]
    have hT2 := z4.map_other hmp hst.ne hg2
    have hB2 : Below base w w2 := z2.grown hg2 (by have := z2.size; omega) (fun j hj => by injection hj with hj; have := hst.hp; omega)
    have hF2 : SFB s g b pm F F w w2 := (SFB.of_set (n := 2) w (.int .i64 ((L.length : Int) - 1))).trans (SFB.of_pm hg2)
    by_cases h1 : L.count v = 1
    · have hnot : v ∉ L.erase v := fun hm => by
        have := List.count_pos_iff.2 hm
        rw [List.count_erase_self] at this
        omega
      have d2 : ((((L.count v : Nat) : Int) - 1) == 0) = true := by rw [h1]; rfl
      obtain ⟨w3, hrun3, hm3, hg3⟩ := hm2.drop intKeyed Tryz.underlying44 (key := .int .i64 v) hkey 0
      have hp3 := hp.gone (v := v) (u := .int .i64 (((L.count v : Nat) : Int) - 1)) h1
      have hT3 := hT2.map_other hmp2 hst.ne hg3
      have hB3 : Below base w w3 := hB2.grown hg3 (by have := hB2.size; omega) (fun j hj => by injection hj with hj; have := hst.hp; omega)
      have hF3 : SFB s g b pm F F w w3 := hF2.trans (SFB.of_pm hg3)
      have hm3' : MapAs w3 Tryz.prog 3 pm (L.erase v).length (del (upd m (keyI v) (.int .i64 (((L.count v : Nat) : Int) - 1))) (keyI v)) := by
        have h := hm3.tight intKeyed (ks := (L.erase v).map keyI) (fun kl _ hs => hp3.keys kl hs)
        rw [List.length_map] at h
        exact h
      have hS3 : StoreAt w3 base s g b pm now F (L.erase v) := ⟨by
        rw [erase_len hvL]
        refine (hg3.block s (lt_of_block hcell2) (fun e => ?_)).trans hcell2
        injection e with e
        exact map_noCells hmp2 _ _ _ (by rw [← e]; exact hcell2), hst.hs, hst.hp, hst.ne, hT3, _, hm3', hp3⟩
      have HS3 := Lib.hid hS3
      have HB3 := Lib.hid hB3
      have HF3 := Lib.hid hF3
      have HRI := Lib.hid hrise
      have HVL := Lib.hid hvL
      have HNOT := Lib.hid hnot
      have hbs3 : base ≤ w3.heap.size := Nat.le_trans hbase hB3.size
      have hel : (L.erase v).length ≤ 1000 := Nat.le_trans List.length_erase_le hL
      clear hst hrise z1 z2 z3 z4 z5 z6 hm0 hp hm1 hm2 hm3 hg2 hg3 hmp hmp2 hcell2 hT2 hT3 hB2 hB3 hF2 hF3 hm3' hp3 hS3 hlk hup hvL hnot h1
      go_enter Tryz.func30, Tryz.ntmps30
      go_wp2_with fail
      refine (tidy_anyB s g b pm now F (L.erase v) w3 hel hm hnow HRI.out hbs3 HS3.out).mono ?_
      rintro e w4 ⟨F', rfl, hfo, hle, hs4, hb4, hf4⟩
      have HFO := Lib.hid hfo
      have HS4 := Lib.hid hs4
      have HB4 := Lib.hid (HB3.out.trans hb4)
      have HF4 := Lib.hid (HF3.out.trans hf4)
      have HLE := Lib.hid hle
      clear hfo hs4 hb4 hf4 hle
      go_wp2_with fail
      go_ret
      exact .inr ⟨HVL.out, F', rfl, fun h => absurd h HNOT.out, fun _ => HFO.out, HLE.out, HS4.out, HB4.out, HF4.out⟩
    · have hin : v ∈ L.erase v := by
        refine List.count_pos_iff.1 ?_
        rw [List.count_erase_self]
        omega
      have d2 : ((((L.count v : Nat) : Int) - 1) == 0) = false := by rw [beq_eq_false_iff_ne]; omega
      have hp3 := hp.less (v := v) (by omega)
      have hm3' : MapAs w2 Tryz.prog 3 pm (L.erase v).length (upd m (keyI v) (.int .i64 (((L.count v : Nat) : Int) - 1))) := by
        have h := hm2.tight intKeyed (ks := (L.erase v).map keyI) (fun kl _ hs => hp3.keys kl hs)
        rw [List.length_map] at h
        exact h
      have hS3 : StoreAt w2 base s g b pm now F (L.erase v) := ⟨by
        rw [erase_len hvL]
        exact hcell2, hst.hs, hst.hp, hst.ne, hT2, _, hm3', hp3⟩
      have HS3 := Lib.hid hS3
      have HB3 := Lib.hid hB2
      have HF3 := Lib.hid hF2
      have HVL := Lib.hid hvL
      have HIN := Lib.hid hin
      clear hst hrise z1 z2 z3 z4 z5 z6 hm0 hp hm1 hm2 hg2 hmp hmp2 hcell2 hT2 hB2 hF2 hm3' hp3 hS3 hlk hup hvL hin h1
      go_enter Tryz.func30, Tryz.ntmps30
      go_wp2_with fail
      go_ret
      exact .inr ⟨HVL.out, F, rfl, fun _ => rfl, fun h => absurd HIN.out h, Nat.le_refl _, HS3.out, HB3.out, HF3.out⟩
  · have hc : L.count v = 0 := List.count_eq_zero.2 hvL
    rw [hc] at hlook
    have HVL := Lib.hid hvL
    clear hst hrise hm0 hp hc hvL
    go_enter Tryz.func30, Tryz.ntmps30
    go_wp2_with fail
    go_ret
    exact .inl ⟨HVL.out, rfl, Below.refl _ _⟩
end Go.Proofs.YtlidenehfmlebaaGreatDoor

namespace Go.Proofs.YtlidenehfmlebaaGreatDoor
open Go.RowKit Go.Maps Go.WideMaps Go.WideAt
def DonePostB (s g b pm now : Nat) (o : OpV) (F : List FileS) (L : List Int) (base : Nat) (w : World) (e : Ending) (w' : World) : Prop :=
  ∃ k ver now' F' L', e = .returned (.tuple #[.int .i64 k, .int .i64 ver]) ∧ DidV now F L o k ver now' F' L' ∧ mapN F' ≤ mapN F + o.2.2.length ∧ StoreAt w' base s g b pm now' F' L' ∧ Below base w w' ∧ SFB s g b pm F F' w w'
set_option maxRecDepth 100000 in
set_option maxHeartbeats 4000000 in
theorem done_anyB (s g b pm now : Nat) (kd nn : Int) (A : Option Addr) (c : Nat) (cs : List ChgD) (F : List FileS) (L : List Int) (w : World) {base : Nat} (hn : (Lit.int .i64 nn).wf = true) (hL : L.length ≤ 1000) (hl : cs.length ≤ 1000) (hlr : ∀ W, Below base w W → ChgRow W A cs) (hlc : cs.length ≤ c) (hgood : ∀ x ∈ cs, GoodC x) (hm : mapN F ≤ 80000) (hnow : now ≤ 1048576) (hrise : RiseF now F) (hbase : base ≤ w.heap.size) (hst : StoreAt w base s g b pm now F L) (hg : ∀ W, Below base w W → Env W) :
    Calls Tryz.prog 10 #[.pointer (some ⟨s, 0, none⟩), .agg #[.int .i64 kd, .int .i64 nn, .slice A cs.length c]] w (DonePostB s g b pm now (kd, nn, cs) F L base w) := by
  have HST := Lib.hid hst
  have HG := Lib.hid hg
  have HLR := Lib.hid hlr
  have HGOOD := Lib.hid hgood
  have HRI := Lib.hid hrise
  clear hst hg hlr hgood hrise
  have hb0 := below_one w (.cells #[.int .i64 kd, .int .i64 nn, .slice A cs.length c] 37)
  have HB0 := Lib.hid hb0
  have hsz : w.heap.size ≤ (w.alloc (.cells #[.int .i64 kd, .int .i64 nn, .slice A cs.length c] 37)).heap.size := hb0.size
  have hbs1 := Nat.le_trans hbase hsz
  have HBB := Lib.hid (hb0.mono hbase)
  have HSF := Lib.hid (SFB.of_below (s := s) (g := g) (b := b) (pm := pm) (F := F) hb0)
  clear hb0 hsz
  by_cases h0 : kd = 0
  · subst h0
    go_enter Tryz.func10, Tryz.ntmps10
    go_wp2_with fail
    refine (scommit_anyB s g b pm now A c cs F L _ (base := base) hL hl (fun W hW _ => HLR.out W (HBB.out.trans hW)) HGOOD.out hm hnow HRI.out hbs1 (HST.out.below HB0.out) (HG.out _ HBB.out).ml).mono ?_
    rintro e w2 (⟨hno, t, v, rfl, hev, hs2, hb2⟩ | ⟨hc, B, F1, F', rfl, hpu, hfo, hsz2, hs2, hb2, hf2⟩)
    · have HNO := Lib.hid hno
      have HS2 := Lib.hid hs2
      have HB2 := Lib.hid (below_from HB0.out hb2)
      have HN := Lib.hid (number (.iface t v) (chkT now F cs) w2 hev (HG.out _ (HB2.out.mono hbase)))
      clear hno hev hs2 hb2
      go_wp2_with fail
      refine HN.out.mono ?_
      rintro e w3 ⟨rfl, hb3⟩
      have HB3 := Lib.hid (below_from HB2.out hb3)
      have HS3 := Lib.hid (HS2.out.below hb3)
      clear hb3
      go_wp2_with fail
      go_ret2
      exact ⟨_, _, now, F, L, rfl, .refused nn cs HNO.out, by omega, HS3.out, HB3.out.mono hbase, SFB.of_below HB3.out⟩
    · have HC := Lib.hid hc
      have HPU := Lib.hid hpu
      have HFO := Lib.hid hfo
      have HS2 := Lib.hid hs2
      have HB2 := Lib.hid (HBB.out.trans hb2)
      have HF2 := Lib.hid (HSF.out.trans hf2)
      have HSZ := Lib.hid hsz2
      have HN := Lib.hid (number .nilIface .nil w2 rfl (HG.out _ HB2.out))
      clear hc hpu hfo hs2 hb2 hf2 hsz2
      go_wp2_with fail
      refine HN.out.mono ?_
      rintro e w3 ⟨rfl, hb3⟩
      have HB3 := Lib.hid (HB2.out.trans (hb3.mono (Nat.le_trans hbase HB2.out.size)))
      have HF3 := Lib.hid (HF2.out.trans (SFB.of_below hb3))
      have HS3 := Lib.hid (HS2.out.below hb3)
      clear hb3
      go_wp2_with fail
      go_ret2
      exact ⟨_, _, now + 1, F', L, rfl, .made nn cs B F1 F' HC.out HPU.out HFO.out, HSZ.out, HS3.out, HB3.out, HF3.out⟩
  · have d0 : (kd == 0) = false := by simpa using h0
    by_cases h1 : kd = 1
    · subst h1
      go_enter Tryz.func10, Tryz.ntmps10
      go_wp2_with fail
      refine (pin_anyB s g b pm now F L _ (base := base) (by omega) (by omega) hbs1 (HST.out.below HB0.out)).mono ?_
      rintro e w2 (⟨h64, rfl, hb2⟩ | ⟨h64, rfl, hs2, hb2, hf2⟩)
      · have H64 := Lib.hid h64
        have HB2 := Lib.hid (below_from HB0.out hb2)
        have HS2 := Lib.hid ((HST.out.below HB0.out).below hb2)
        clear hb2 h64
        go_wp2_with fail
        go_ret2
        exact ⟨_, _, now, F, L, rfl, .full nn cs H64.out, by omega, HS2.out, HB2.out.mono hbase, SFB.of_below HB2.out⟩
      · have H64 := Lib.hid h64
        have HB2 := Lib.hid (HBB.out.trans hb2)
        have HF2 := Lib.hid (HSF.out.trans hf2)
        have HS2 := Lib.hid hs2
        clear hb2 h64 hf2 hs2
        go_wp2_with fail
        go_ret2
        exact ⟨_, _, now, F, _, rfl, .pinned nn cs H64.out, by omega, HS2.out, HB2.out, HF2.out⟩
    · have d1 : (kd == 1) = false := by simpa using h1
      by_cases h2 : kd = 2
      · subst h2
        go_enter Tryz.func10, Tryz.ntmps10
        go_wp2_with fail
        refine (unpin_anyB s g b pm now F L nn _ (base := base) hn hL (by omega) (by omega) HRI.out hbs1 (HST.out.below HB0.out)).mono ?_
        rintro e w2 (⟨hno, rfl, hb2⟩ | ⟨hin, F', rfl, hsame, hfo, hsz2, hs2, hb2, hf2⟩)
        · have HNO := Lib.hid hno
          have HB2 := Lib.hid (below_from HB0.out hb2)
          have HS2 := Lib.hid ((HST.out.below HB0.out).below hb2)
          clear hb2 hno
          go_wp2_with fail
          go_ret2
          exact ⟨_, _, now, F, L, rfl, .missing nn cs HNO.out, by omega, HS2.out, HB2.out.mono hbase, SFB.of_below HB2.out⟩
        · have HIN := Lib.hid hin
          have HSAME := Lib.hid hsame
          have HFO := Lib.hid hfo
          have HSZ := Lib.hid hsz2
          have HB2 := Lib.hid (HBB.out.trans hb2)
          have HF2 := Lib.hid (HSF.out.trans hf2)
          have HS2 := Lib.hid hs2
          clear hb2 hin hsame hfo hsz2 hf2 hs2
          go_wp2_with fail
          go_ret2
          refine ⟨_, _, now, F', _, rfl, ?_, by have := HSZ.out; omega, HS2.out, HB2.out, HF2.out⟩
          by_cases hie : nn ∈ L.erase nn
          · rw [HSAME.out hie]
            exact .less nn cs HIN.out hie
          · exact .gone nn cs F' HIN.out hie (HFO.out hie)
      · have d2 : (kd == 2) = false := by simpa using h2
        go_enter Tryz.func10, Tryz.ntmps10
        go_wp2_with fail
        go_ret2
        exact ⟨_, _, now, F, L, rfl, .other kd nn cs h0 h1 h2, by omega, HST.out.below HB0.out, HBB.out, HSF.out⟩
end Go.Proofs.YtlidenehfmlebaaGreatDoor

namespace Go.Proofs.YtlidenehfmlebaaGreatDoor
open Go.RowKit Go.Maps Go.WideMaps Go.WideAt
open Go.Proofs.YtlidenehfmlebaaGreatDoorW.PrintWords (Kd ReadsRow)
/-- The two stores between the operations of a script. -/
structure TwoAt (w0 : World) (bs s g b pm s' g' b' pm' k now : Nat) (Fa Fb : List FileS) (La : List Int) (wr : World) : Prop where
  sa : StoreAt wr bs s g b pm now Fa La
  sb : StoreAt wr bs s' g' b' pm' now Fb []
  la : LittleV now Fa La
  lb : LittleV now Fb []
  same : SameV now Fa Fb
  dis : Dis s g b pm Fa s' g' b' pm' Fb
  sza : mapN Fa ≤ k * 20
  szb : mapN Fb ≤ k * 20
  nows : now ≤ k
  below : Below w0.heap.size w0 wr
  base : bs ≤ wr.heap.size
theorem TwoAt.stay {w0 : World} {bs s g b pm s' g' b' pm' k now : Nat} {Fa Fb : List FileS} {La : List Int} {wr w' : World} (h : TwoAt w0 bs s g b pm s' g' b' pm' k now Fa Fb La wr) (hb : Below wr.heap.size wr w') : TwoAt w0 bs s g b pm s' g' b' pm' k now Fa Fb La w' :=
  ⟨h.sa.below hb, h.sb.below hb, h.la, h.lb, h.same, h.dis, h.sza, h.szb, h.nows, below_from h.below hb, Nat.le_trans h.base hb.size⟩
theorem StoreAt.lower {w : World} {base base' s g b pm now : Nat} {L : List Int} (h : StoreAt w base s g b pm now [] L) (hb : base' ≤ base) : StoreAt w base' s g b pm now [] L :=
  ⟨h.cell, Nat.le_trans hb h.hs, Nat.le_trans hb h.hp, h.ne, ⟨h.tree.cell, Nat.le_trans hb h.tree.hg, Nat.le_trans hb h.tree.hb, h.tree.map, h.tree.once, h.tree.apart, fun f hf => by cases hf⟩, h.pins⟩
/-- Two new stores. -/
theorem two_new {w0 w2 w3 w4 : World} {s g b pm s' g' b' pm' : Nat} (ha : StoreAt w3 w2.heap.size s g b pm 0 [] []) (hb : StoreAt w4 w3.heap.size s' g' b' pm' 0 [] []) (h3 : Below w2.heap.size w2 w3) (h4 : Below w3.heap.size w3 w4) (h0 : Below w0.heap.size w0 w2) : TwoAt w0 w2.heap.size s g b pm s' g' b' pm' 0 0 [] [] [] w4 := by
  refine ⟨ha.below h4, hb.lower h3.size, little_none, little_none, same_none, fun k h1 h2 => ?_, by simp [mapN], by simp [mapN], by omega, below_from (below_from h0 h3) h4, Nat.le_trans h3.size h4.size⟩
  have hlt := ha.own_lt h1
  have hs := hb.hs
  have hp := hb.hp
  have hg := hb.tree.hg
  have hbb := hb.tree.hb
  rcases h2 with h | h | h | h | ⟨f, hf, _⟩
  · omega
  · omega
  · omega
  · omega
  · cases hf
/-- An operation on the first alone. -/
theorem TwoAt.look {w0 : World} {bs s g b pm s' g' b' pm' k now : Nat} {Fa Fb : List FileS} {La : List Int} {wr w' : World} (h : TwoAt w0 bs s g b pm s' g' b' pm' k now Fa Fb La wr) {o : OpV} {e : Ending} (hp : DonePostB s g b pm now o Fa La bs wr e w') (ho : o.2.2.length ≤ 20) (h0 : o.1 ≠ 0) (hbs : w0.heap.size ≤ bs) :
    ∃ n ver Fa' La', e = .returned (.tuple #[.int .i64 n, .int .i64 ver]) ∧ TwoAt w0 bs s g b pm s' g' b' pm' (k + 1) now Fa' Fb La' w' := by
  obtain ⟨n, ver, now', F', L', rfl, hd, hsz, hs, hb, hf⟩ := hp
  obtain ⟨hk, _, _⟩ := h.la.did hd h.sa.tree.once
  obtain ⟨rfl, hsm⟩ := h.same.look hd h.sa.tree.once h.la.rise h0
  obtain ⟨hsb, hdis⟩ := h.sa.other2 h.sb h.dis hf
  have h1 := h.sza
  have h2 := h.szb
  have h3 := h.nows
  exact ⟨n, ver, F', L', rfl, hs, hsb, hk, h.lb, hsm, hdis, by omega, by omega, by omega, h.below.trans (hb.mono hbs), Nat.le_trans h.base hb.size⟩
/-- A commit at the first, ahead of the second's. -/
structure MidS (w0 : World) (bs s g b pm s' g' b' pm' k now : Nat) (o : OpV) (Fa Fb : List FileS) (La : List Int) (ka va : Int) (now' : Nat) (Fa' : List FileS) (La' : List Int) (wr : World) : Prop where
  sa : StoreAt wr bs s g b pm now' Fa' La'
  sb : StoreAt wr bs s' g' b' pm' now Fb []
  la0 : LittleV now Fa La
  la : LittleV now' Fa' La'
  lb : LittleV now Fb []
  same : SameV now Fa Fb
  did : DidV now Fa La o ka va now' Fa' La'
  once : (Fa.map FileS.path).Nodup
  dis : Dis s g b pm Fa' s' g' b' pm' Fb
  sza : mapN Fa' ≤ (k + 1) * 20
  szb : mapN Fb ≤ k * 20
  nows : now ≤ k
  nows2 : now' ≤ k + 1
  below : Below w0.heap.size w0 wr
  base : bs ≤ wr.heap.size
theorem TwoAt.mid {w0 : World} {bs s g b pm s' g' b' pm' k now : Nat} {Fa Fb : List FileS} {La : List Int} {wr w' : World} (h : TwoAt w0 bs s g b pm s' g' b' pm' k now Fa Fb La wr) {o : OpV} {e : Ending} (hp : DonePostB s g b pm now o Fa La bs wr e w') (ho : o.2.2.length ≤ 20) (hbs : w0.heap.size ≤ bs) :
    ∃ n ver now' Fa' La', e = .returned (.tuple #[.int .i64 n, .int .i64 ver]) ∧ MidS w0 bs s g b pm s' g' b' pm' k now o Fa Fb La n ver now' Fa' La' w' ∧ SFB s g b pm Fa Fa' wr w' := by
  obtain ⟨n, ver, now', F', L', rfl, hd, hsz, hs, hb, hf⟩ := hp
  obtain ⟨hk, h5, h6⟩ := h.la.did hd h.sa.tree.once
  obtain ⟨hsb, hdis⟩ := h.sa.other2 h.sb h.dis hf
  have h1 := h.sza
  have h3 := h.nows
  exact ⟨n, ver, now', F', L', rfl, ⟨hs, hsb, h.la, hk, h.lb, h.same, hd, h.sa.tree.once, hdis, by omega, h.szb, h.nows, by omega, h.below.trans (hb.mono hbs), Nat.le_trans h.base hb.size⟩, hf⟩
theorem MidS.both {w0 : World} {bs s g b pm s' g' b' pm' k now : Nat} {n : Int} {cs : List ChgD} {Fa Fb : List FileS} {La : List Int} {ka va : Int} {now' : Nat} {Fa' : List FileS} {La' : List Int} {wr w' : World} (h : MidS w0 bs s g b pm s' g' b' pm' k now (0, n, cs) Fa Fb La ka va now' Fa' La' wr) {e : Ending} (hp : DonePostB s' g' b' pm' now (0, n, cs) Fb [] bs wr e w') (ho : cs.length ≤ 20) (hbs : w0.heap.size ≤ bs) :
    ∃ Fb', e = .returned (.tuple #[.int .i64 ka, .int .i64 va]) ∧ TwoAt w0 bs s g b pm s' g' b' pm' (k + 1) now' Fa' Fb' La' w' := by
  obtain ⟨kb, vb, nb, Fb', Lb', rfl, hd, hsz, hs, hb, hf⟩ := hp
  have hobn : (Fb.map FileS.path).Nodup := h.sb.tree.once
  obtain ⟨rfl, rfl, rfl, _, rfl, hsm⟩ := h.same.commit h.did hd h.once hobn h.la0.rise h.lb.rise
  obtain ⟨hkb, _, _⟩ := h.lb.did hd hobn
  obtain ⟨hsa, hdis⟩ := h.sb.other2 h.sa h.dis.symm hf
  have h1 := h.szb
  simp only at hsz
  exact ⟨Fb', rfl, hsa, hs, h.la, hkb, hsm, hdis.symm, h.sza, by omega, h.nows2, h.below.trans (hb.mono hbs), Nat.le_trans h.base hb.size⟩
theorem list_now {now : Nat} {F : List FileS} {L : List Int} {l : List ByteArray} (h : (listT now F now ⟨#[]⟩).1 = l) : listV now F L now ⟨#[]⟩ = (l, 0) := by
  have h0 : thereV now L (now : Int) = 0 := by
    unfold thereV
    rw [if_neg (by omega), if_neg (by omega)]
  rw [listV, if_neg (by rw [h0]; simp), ← h]
  refine Prod.ext rfl ?_
  rw [listT, if_neg (by omega)]
theorem read_now {now : Nat} {F : List FileS} {L : List Int} {p : ByteArray} : readV now F L now p = readT now F now p := by
  have h0 : thereV now L (now : Int) = 0 := by
    unfold thereV
    rw [if_neg (by omega), if_neg (by omega)]
  rw [readV, if_neg (by rw [h0]; simp)]
set_option maxRecDepth 100000 in
set_option maxHeartbeats 16000000 in
theorem viewSame_walk (v2 : Value) (sc : List OpV) (w : World) (hv2 : SliceArg kOpV w v2 sc) (hg2 : ∀ x ∈ sc, OpVArg x) (hg : Env w) :
    Calls Tryz.prog 4 #[v2] w fun e w' => e = .returned (.bool true) ∧ Below w.heap.size w w' := by
  obtain ⟨A2, c2, rfl, hlc2, hcm2, hC2⟩ := hv2
  have hmx : (maxLen : Nat) = 9223372036854775807 := rfl
  obtain ⟨hr2, hl2⟩ := opVRow_of hC2
  have HK := Lib.hid (looks_any w hg.ml)
  have HG := Lib.hid hg
  have HR2 := Lib.hid hr2
  have HL2 := Lib.hid hl2
  have HG2 := Lib.hid hg2
  clear hC2 hg2 hg hr2 hl2
  go_enter Tryz.func4, Tryz.ntmps4
  go_wp2_with fail
  refine HK.out.mono ?_
  rintro e w1 ⟨rfl, hb1⟩
  have HB1 := Lib.hid hb1
  clear hb1
  go_wp2_with fail
  refine (fits_view A2 c2 sc w1 (HR2.out.below HB1.out) (by omega) (fun o ho => ⟨(HL2.out o ho).1, fun x hx => ⟨by have := ((HG2.out o ho).2.2 x hx).1; omega, (HL2.out o ho).2 x hx⟩⟩)).mono ?_
  rintro e w2 ⟨rfl, hb2⟩
  have HB2 := Lib.hid (below_from HB1.out hb2)
  clear hb2
  cases hft : fitV sc with
  | false =>
    go_wp2_with fail
    go_ret
    exact ⟨rfl, HB2.out⟩
  | true =>
    have hfs := good_fits hft HG2.out
    have hsc : sc.length ≤ 100 := (fitV_out hft).1
    have HFS := Lib.hid hfs
    clear hft hfs
    go_wp2_with fail
    refine (new_store w2).mono ?_
    rintro e w3 ⟨s, g, b, pm, rfl, hs3, hb3⟩
    have hbs2 : w.heap.size ≤ w2.heap.size := HB2.out.size
    have HS3 := Lib.hid hs3
    have HB3 := Lib.hid hb3
    clear hs3 hb3
    go_wp2_with fail
    refine (new_store w3).mono ?_
    rintro e w4 ⟨s', g', b', pm', rfl, hs4, hb4⟩
    have HS4 := Lib.hid (two_new HS3.out hs4 HB3.out hb4 HB2.out)
    clear hs4 hb4
    go_wp2_with fail
    go_loopw [6, 7, 8, 9, 10, 30] (fun _ _ _ _ _ i wr => ∃ (k now : Nat) (Fa Fb : List FileS) (La : List Int), k ≤ sc.length ∧ i = .int .i64 k ∧ TwoAt w w2.heap.size s g b pm s' g' b' pm' k now Fa Fb La wr) (fun _ _ _ _ _ i _ => sc.length - (intOf i).toNat)
    case atStart => exact ⟨0, 0, [], [], [], by omega, rfl, HS4.out⟩
    case round =>
      obtain ⟨k, now, Fa, Fb, La, hk, rfl, hst⟩ := hrel
      obtain ⟨wk, rfl⟩ : ∃ W, W = wr := ⟨wr, rfl⟩
      have HS := Lib.hid hst
      clear hst
      by_cases hlt : k < sc.length
      · obtain ⟨bb, off, A3, c3, rfl, x1, x2, x3, x4, x5⟩ := HR2.out k hlt
        obtain ⟨o, ho⟩ : ∃ o, o = sc[k] := ⟨_, rfl⟩
        have hfo := HFS.out o (ho ▸ List.getElem_mem hlt)
        rw [← ho] at x1 x2 x3 x4 x5
        clear ho
        obtain ⟨kd, nn, cs⟩ := o
        simp only at x1 x2 x3 x4 x5 hfo
        replace x1 := cell_below HS.out.below x1
        replace x2 := cell_below HS.out.below x2
        replace x3 := cell_below HS.out.below x3
        have HCR := Lib.hid x5
        have hcs20 : cs.length ≤ 20 := hfo.1
        have hnw := hfo.2.1
        have HGC := Lib.hid hfo.2.2
        obtain ⟨W5, hW5⟩ : ∃ W, W = wk.alloc (.cells #[.int .i64 kd, .int .i64 nn, .slice A3 cs.length c3] 37) := ⟨_, rfl⟩
        have hbo : Below wk.heap.size wk W5 := by rw [hW5]; exact below_one wk _
        have hm5 : W5.heap[wk.heap.size]? = some (Obj.cells #[.int .i64 kd, .int .i64 nn, .slice A3 cs.length c3] 37 (0, 0)) := by rw [hW5]; exact heap_alloc_new wk _
        obtain ⟨go, hgo⟩ : ∃ g, g = wk.heap.size := ⟨_, rfl⟩
        rw [← hgo] at hm5
        have q0 : W5.cell? ⟨go, 0, none⟩ = some (.int .i64 kd) := by rw [cell_of_row _ _ 0 _ _ _ hm5]; rfl
        have q1 : W5.cell? ⟨go, 1, none⟩ = some (.int .i64 nn) := by rw [cell_of_row _ _ 1 _ _ _ hm5]; rfl
        have q2 : W5.cell? ⟨go, 2, none⟩ = some (.slice A3 cs.length c3) := by rw [cell_of_row _ _ 2 _ _ _ hm5]; rfl
        have HS1 := Lib.hid (HS.out.stay hbo)
        have HM5 := Lib.hid hm5
        clear x5 hfo hbo hm5
        go_upto_region 9 with fail
        rw [← hW5, ← hgo]
        clear hW5 hgo x1 x2 x3
        have HDA := Lib.hid (done_anyB s g b pm now kd nn A3 c3 cs Fa La W5 (base := w2.heap.size) hnw (by have := HS1.out.la.len; omega) (by omega) (fun W hW => HCR.out.below (HS1.out.below.trans (hW.mono hbs2))) x4 HGC.out (by have := HS1.out.sza; omega) (by have := HS1.out.nows; omega) HS1.out.la.rise HS1.out.base HS1.out.sa (fun W hW => HG.out.below (HS1.out.below.trans (hW.mono hbs2))))
        go_wp2_with fail
        refine HDA.out.mono ?_
        intro e w10 hp
        by_cases h0 : kd = 0
        · subst h0
          obtain ⟨ka, va, now2, Fa2, La2, rfl, hmid, hfr⟩ := HS1.out.mid hp hcs20 hbs2
          have HMID := Lib.hid hmid
          have hm10 := hfr.fr.at_ HM5.out (HS1.out.sa.not_own HM5.out (by decide) (by decide) (by decide))
          have r0 : w10.cell? ⟨go, 0, none⟩ = some (.int .i64 0) := by rw [cell_of_row _ _ 0 _ _ _ hm10]; rfl
          have r1 : w10.cell? ⟨go, 1, none⟩ = some (.int .i64 nn) := by rw [cell_of_row _ _ 1 _ _ _ hm10]; rfl
          have r2 : w10.cell? ⟨go, 2, none⟩ = some (.slice A3 cs.length c3) := by rw [cell_of_row _ _ 2 _ _ _ hm10]; rfl
          have HDB := Lib.hid (done_anyB s' g' b' pm' now 0 nn A3 c3 cs Fb [] w10 (base := w2.heap.size) hnw (by simp) (by omega) (fun W hW => HCR.out.below (HMID.out.below.trans (hW.mono hbs2))) x4 HGC.out (by have := HMID.out.szb; omega) (by have := HMID.out.nows; omega) HMID.out.lb.rise HMID.out.base HMID.out.sb (fun W hW => HG.out.below (HMID.out.below.trans (hW.mono hbs2))))
          clear hp hmid hfr hm10 q0 q1 q2
          go_wp2_with fail
          refine HDB.out.mono ?_
          intro e w11 hp
          obtain ⟨Fb2, rfl, htw⟩ := HMID.out.both hp hcs20 hbs2
          have HTW := Lib.hid htw
          clear hp htw r0 r1 r2
          go_wp2_with fail
          go_roundw
          case rel => exact ⟨k + 1, now2, Fa2, Fb2, La2, by omega, by go_num, HTW.out⟩
          case measure => simp [intOf]; omega
        · have d0 : (kd == 0) = false := by simpa using h0
          have hfr := hp
          obtain ⟨_, _, _, _, _, _, _, _, _, _, hfr⟩ := hfr
          have hm10 := hfr.fr.at_ HM5.out (HS1.out.sa.not_own HM5.out (by decide) (by decide) (by decide))
          have r0 : w10.cell? ⟨go, 0, none⟩ = some (.int .i64 kd) := by rw [cell_of_row _ _ 0 _ _ _ hm10]; rfl
          obtain ⟨n1, v1, Fa2, La2, rfl, htw⟩ := HS1.out.look hp hcs20 h0 hbs2
          have HTW := Lib.hid htw
          clear hp htw hfr hm10 q0 q1 q2 h0
          go_wp2_with fail
          go_roundw
          case rel => exact ⟨k + 1, now, Fa2, Fb, La2, by omega, by go_num, HTW.out⟩
          case measure => simp [intOf]; omega
      · have hk100 : k ≤ 100 := by omega
        have hsza := HS.out.sza
        have hszb := HS.out.szb
        have hnw := HS.out.nows
        obtain ⟨l, hl⟩ : ∃ l, (listT now Fa now ⟨#[]⟩).1 = l := ⟨_, rfl⟩
        have hlb : (listT now Fb now ⟨#[]⟩).1 = l := by rw [← HS.out.same.list HS.out.sa.tree.once HS.out.sb.tree.once, hl]
        have hnww : (Lit.int .i64 (now : Int)).wf = true := by simp [Lit.wf, IntKind.min, IntKind.max, IntKind.signed, IntKind.bits]; omega
        have HLA := Lib.hid (list_now (L := La) hl)
        have HLB := Lib.hid (list_now (L := []) hlb)
        have HPA : Hid (∀ j (hj : j < l.length), l[j].size ≤ 64) := Lib.hid (fun j hj => by
          have hm : l[j] ∈ (listT now Fa now ⟨#[]⟩).1 := by rw [hl]; exact List.getElem_mem hj
          have hp := ((list_mem (by omega) (by omega)).1 hm).1
          obtain ⟨f, hf, e⟩ := List.mem_map.1 hp
          rw [← e]
          exact (HS.out.sa.tree.files f hf).2.2.2)
        have hfew := HS.out.same.fewer HS.out.sa.tree.once HS.out.sb.tree.once HS.out.lb (fun f hf => (HS.out.sa.tree.files f hf).2.1)
        have x0 := (store_cells HS.out.sa).1
        clear hl hlb
        go_wp2_with fail
        refine (now_any g b now Fa wk HS.out.sa.tree).mono ?_
        rintro e w5 ⟨rfl, h5⟩
        replace h5 := h5.symm
        subst h5
        go_wp2_with fail
        refine (slist_any s g b pm now Fa La now ⟨#[]⟩ l 0 wk hnww (by decide) (by omega) HS.out.sa HLA.out).mono ?_
        rintro e w6 ⟨A1, c1, rfl, hc1, hl9, htx1, how1, hb6⟩
        have HS6 := Lib.hid (HS.out.stay hb6)
        have HTX1 := Lib.hid htx1
        have y0 := (store_cells HS6.out.sb).1
        clear htx1 how1 hb6 x0
        go_wp2_with fail
        refine (now_any g' b' now Fb w6 HS6.out.sb.tree).mono ?_
        rintro e w7 ⟨rfl, h7⟩
        replace h7 := h7.symm
        subst h7
        go_wp2_with fail
        refine (slist_any s' g' b' pm' now Fb [] now ⟨#[]⟩ l 0 w6 hnww (by decide) (by omega) HS6.out.sb HLB.out).mono ?_
        rintro e w7 ⟨A2', c2', rfl, hc2, _, htx2, how2, hb7⟩
        have HS7 := Lib.hid (HS6.out.stay hb7)
        have HTX2 := Lib.hid htx2
        have HTX1' := Lib.hid (HTX1.out.below hb7)
        have hlt2 : ¬ ((mapN Fa : Nat) : Int) < ((mapN Fb : Nat) : Int) := by omega
        have hlt3 : decide (mapN Fa < mapN Fb) = false := decide_eq_false (by omega)
        have HC : Hid (∀ W, Below w7.heap.size w7 W → W.cell? ⟨s, 0, none⟩ = some (.pointer (some ⟨g, 0, none⟩)) ∧ W.cell? ⟨s', 0, none⟩ = some (.pointer (some ⟨g', 0, none⟩))) := Lib.hid (fun W hW => ⟨(store_cells (HS7.out.stay hW).sa).1, (store_cells (HS7.out.stay hW).sb).1⟩)
        have HNA : Hid (∀ W, Below w7.heap.size w7 W → Calls Tryz.prog 11 #[.pointer (some ⟨g, 0, none⟩)] W fun e w' => e = .returned (.int .i64 now) ∧ w' = W) := Lib.hid (fun W hW => now_any g b now Fa W (HS7.out.stay hW).sa.tree)
        have HNB : Hid (∀ W, Below w7.heap.size w7 W → Calls Tryz.prog 11 #[.pointer (some ⟨g', 0, none⟩)] W fun e w' => e = .returned (.int .i64 now) ∧ w' = W) := Lib.hid (fun W hW => now_any g' b' now Fb W (HS7.out.stay hW).sb.tree)
        have HSA : Hid (∀ W, Below w7.heap.size w7 W → Calls Tryz.prog 12 #[.pointer (some ⟨g, 0, none⟩)] W fun e w' => e = .returned (.int .i64 ((mapN Fa : Nat) : Int)) ∧ Below W.heap.size W w') := Lib.hid (fun W hW => states_any g b now Fa W (by omega) (HS7.out.stay hW).sa.tree)
        have HSB : Hid (∀ W, Below w7.heap.size w7 W → Calls Tryz.prog 12 #[.pointer (some ⟨g', 0, none⟩)] W fun e w' => e = .returned (.int .i64 ((mapN Fb : Nat) : Int)) ∧ Below W.heap.size W w') := Lib.hid (fun W hW => states_any g' b' now Fb W (by omega) (HS7.out.stay hW).sb.tree)
        have HD7 : Hid (Below w7.heap.size w7 w7.drew) := Lib.hid (Below.refl _ _).drew
        have s7 := Lib.hid (HC.out w7 (Below.refl _ _))
        clear htx2 how2 hb7 y0 hfew
        go_upto_region 17 with fail
        go_region_held3 (fun w' => w'.cell? ⟨s, 0, none⟩ = some (.pointer (some ⟨g, 0, none⟩)) ∧ w'.cell? ⟨s', 0, none⟩ = some (.pointer (some ⟨g', 0, none⟩)))
          (first
            | exact s9.out
            | exact s8.out
            | exact s7.out)
          (first
            | (go_at_call 11
               first
                 | (refine (HNA.out _ HD7.out).mono ?_
                    rintro e wn ⟨rfl, hn⟩
                    replace hn := hn.symm
                    subst hn)
                 | (refine (HNB.out _ HD7.out).mono ?_
                    rintro e wn ⟨rfl, hn⟩
                    replace hn := hn.symm
                    subst hn))
            | (go_at_call 12
               first
                 | (refine (HSB.out _ HB8.out).mono ?_
                    rintro e w9 ⟨rfl, hb9⟩
                    have HB9 := Lib.hid (below_from HB8.out hb9)
                    have s9 := Lib.hid (HC.out w9 HB9.out)
                    clear hb9)
                 | (refine (HSA.out _ HD7.out).mono ?_
                    rintro e w8 ⟨rfl, hb8⟩
                    have HB8 := Lib.hid (below_from HD7.out hb8)
                    have s8 := Lib.hid (HC.out w8 HB8.out)
                    clear hb8)))
        all_goals
          have HS9 := Lib.hid (HS7.out.stay HB9.out)
          have HTA := Lib.hid (HTX1'.out.below HB9.out)
          have HTB := Lib.hid (HTX2.out.below HB9.out)
          clear HNA HNB HSA HSB HD7 s7 s8 s9 HC
          go_wp2_with fail
          go_loopw [15, 16, 17, 18, 19, 20, 119] (fun _ _ _ _ _ _ i wr => ∃ j : Nat, j ≤ l.length ∧ i = .int .i64 j ∧ Below w9.heap.size w9 wr) (fun _ _ _ _ _ _ i _ => l.length - (intOf i).toNat)
          case atStart => exact ⟨0, by omega, rfl, Below.refl _ _⟩
          case round =>
            obtain ⟨j, hj, rfl, hbj⟩ := hrel
            obtain ⟨wj, rfl⟩ : ∃ W, W = wr := ⟨wr, rfl⟩
            have HBJ := Lib.hid hbj
            have HSJ := Lib.hid (HS9.out.stay hbj)
            by_cases hjl : j < l.length
            · obtain ⟨ad1, rfl, hT1⟩ := (HTA.out.below hbj) (by omega)
              obtain ⟨ad2, rfl, hT2⟩ := (HTB.out.below hbj) (by omega)
              have x1 := hT1 j hjl
              have x2 := hT2 j hjl
              obtain ⟨p, hp⟩ : ∃ p, p = l[j] := ⟨_, rfl⟩
              have hpz : p.size ≤ 64 := by rw [hp]; exact HPA.out j hjl
              rw [← hp] at x1 x2
              obtain ⟨⟨d, kk⟩, hd⟩ : ∃ dk, dk = readT now Fa now p := ⟨_, rfl⟩
              have HRA : Hid (readV now Fa La now p = (d, kk)) := Lib.hid (read_now.trans hd.symm)
              have HRB : Hid (readV now Fb [] now p = (d, kk)) := Lib.hid (by rw [read_now, ← HSJ.out.same.read p, ← hd])
              have x0 := (store_cells HSJ.out.sa).1
              have X2 := Lib.hid x2
              clear hp hd hT1 hT2 hbj x2
              go_wp2_with fail
              refine (now_any g b now Fa wj HSJ.out.sa.tree).mono ?_
              rintro e wn ⟨rfl, hn⟩
              replace hn := hn.symm
              subst hn
              go_wp2_with fail
              refine (sread_any s g b pm now Fa La now p d kk wj hnww (by unfold maxLen; omega) (by omega) HSJ.out.sa HRA.out).mono ?_
              rintro e w10 ⟨A8, c8, rfl, hcv1, how1, hb10⟩
              have HS10 := Lib.hid (HSJ.out.stay hb10)
              have HCV1 := Lib.hid hcv1
              have HB10 := Lib.hid hb10
              have y0 := (store_cells HS10.out.sb).1
              clear hcv1 how1 hb10 x0 x1
              go_wp2_with fail
              refine (now_any g' b' now Fb w10 HS10.out.sb.tree).mono ?_
              rintro e wn ⟨rfl, hn⟩
              replace hn := hn.symm
              subst hn
              go_wp2_with fail
              refine (sread_any s' g' b' pm' now Fb [] now p d kk w10 hnww (by unfold maxLen; omega) (by omega) HS10.out.sb HRB.out).mono ?_
              rintro e w11 ⟨A9, c9, rfl, hcv2, how2, hb11⟩
              have cv1 := HCV1.out w11 hb11
              have cv2 := hcv2 w11 (Below.refl _ _)
              have x2 := cell_below hb11 (cell_below HB10.out X2.out)
              have HB11 := Lib.hid (below_from HBJ.out (below_from HB10.out hb11))
              clear hcv2 how2 hb11 y0
              go_wp2_with fail
              go_roundw
              case rel => exact ⟨j + 1, by omega, by go_num, HB11.out⟩
              case measure => simp [intOf]; omega
            · obtain rfl : j = l.length := by omega
              clear hbj
              go_wp2_with fail
              go_ret
              exact ⟨rfl, HSJ.out.below⟩
end Go.Proofs.YtlidenehfmlebaaGreatDoor

namespace Go.Proofs.YtlidenehfmlebaaGreatDoor
open Go.ChangeShapes Go.WideShapes Go.ChangeAt Go.RowKit
open Go.ChangeMaps (open_string shut_string)
open Go.Proofs.YtlidenehfmlebaaGreatDoorW.PrintWords (Kd ReadsRow)
set_option maxRecDepth 100000 in
theorem viewSame_lifted (os : Os) (started : os.Started) (H : Type) (enc : TypeId × Value → H) :
    ReturnsInHanded {} Tryz.checked os 4 .any (fun w args => (Rows.viewSameSpec.pre enc Tryz.prog Tryz.f4 Rows.viewSameRow.domain false w args ∧ laidMetH Tryz.prog laid3 w) ∧ sizedMet enc Tryz.prog Tryz.f4 (OpenSpec.ofChange Rows.viewSameSpec) false w args) (Rows.viewSameSpec.post enc Tryz.prog Tryz.f4 false true false false) := by
  refine returns_and_shaped (C := Tryz.checked) (X := fun w _ => laidMetH Tryz.prog laid3 w) (fun _ _ _ hh h => h.of_heap hh) own started (by kernel_rfl) Tryz.func4
    (ChangeSpec.witness_shaped (enc := enc) (C := Tryz.checked) (os := os) (X := fun w _ => laidMetH Tryz.prog laid3 w) false (wit os) #[.slice none 0 0] 8 (wit_os os) (wit_shaped os _) (by kernel_rfl) (by kernel_rfl) (by kernel_rfl) (wit_met os _)) ?_
  intro W base args ds gs before hval0 hW hcnd hsz0 hL hsh _
  have hsz : (DataW.weightsEach Tryz.prog (Tryz.f4.params.toList ++ Rows.viewSameSpec.plain.varTypes Tryz.prog) (ds ++ gs)).all (· ≤ reachBytes) = true := hsz0
  have hval : ∀ (j : Nat) t v, Tryz.f4.params[j]? = some t → args[j]? = some v → Value.okWide Tryz.prog W .any base t v := hval0
  have hW' := hW
  obtain ⟨p, q, hA0, hV, rfl, hfz, hnd⟩ := hW
  have hA : DataW.TrodAll enc Tryz.prog W 0 (fun _ => true) true Tryz.f4.params.toList args.toList ds p := hA0
  rw [Tryz.params4] at hA hval hsz
  obtain ⟨v0, vs0, d0, ds0, p0, q0, hargs, rfl, rfl, h0, r0⟩ := trodAll_cons hA
  obtain ⟨rfl, rfl, rfl⟩ := trodAll_nil r0
  obtain rfl : args = #[v0] := by cases args; simp_all
  obtain ⟨rfl, rfl⟩ := trodVars_none hV
  obtain ⟨a0, len0, cap0, rfl⟩ := okWide_slice Tryz.underlying22 (hval 0 22 v0 rfl rfl)
  have k0 := h0
  have lt0 : ∀ x ∈ p0, x.block < W.heap.size := by obtain ⟨m, hm⟩ := k0; exact DataW.trod_lt m _ _ _ hm
  obtain ⟨l0, w0, g0⟩ := arg_slice (d := (Kd.pair (Kd.int .i64) (Kd.pair (Kd.int .i64) (Kd.slice 66 (Kd.pair Kd.string (Kd.pair (Kd.slice 5 (Kd.int .u8)) Kd.bool)))))) Tryz.underlying22 (by kernel_rfl) (opens_struct Tryz.underlying37 (by kernel_rfl) (opensF_cons rfl (by kernel_rfl) (opens_int Tryz.underlying3) (opensF_cons rfl (by kernel_rfl) (opens_int Tryz.underlying3) (opensF_last rfl (by kernel_rfl) (opens_slice Tryz.underlying35 (by kernel_rfl) (opens_struct Tryz.underlying66 (by kernel_rfl) (opensF_cons rfl (by kernel_rfl) (opens_string Tryz.underlying9) (opensF_cons rfl (by kernel_rfl) (opens_slice Tryz.underlying55 (by kernel_rfl) (opens_int Tryz.underlying5)) (opensF_last rfl (by kernel_rfl) (opens_bool Tryz.underlying4)))))))))) h0
  clear hA0 hval0 hsz0 hsz
  refine (viewSame_walk _ l0 W w0 g0 ⟨et_of_laid hL, envM_of_shaped hsh⟩).mono fun e W' ⟨he, bel⟩ => ?_
  subst he
  exact ⟨_, rfl, _, _, _, [], _, [], hW', trodAll_mk1 (shut_bool Tryz.underlying4 _), (trodAll_cons_mk (Below.trod laidOut (by kernel_rfl) (of_decide_eq_true (by kernel_rfl)) k0 bel lt0) trodAll_mk0), rfl, bel.frame _, fun h => by cases h⟩
theorem viewSame_holds : Rows.ViewSameSaid :=
  OpenClaim.holds_of_wide 4 Tryz.f4 rfl rfl rfl rfl rfl rfl rfl ⟨rfl, rfl, rfl, rfl, rfl⟩ rfl rfl rfl rfl rfl (by kernel_rfl) Tryz.func4 (by kernel_rfl)
    (of_decide_eq_true (by kernel_rfl)) (by unfold Func.isWrapper; first | (rw [if_pos (by decide +kernel)]; kernel_rfl) | (rw [if_neg (by decide +kernel)]; exact ⟨rfl, rfl⟩))
    (fun os started H enc _ => viewSame_lifted os started H enc)
theorem viewSame_card : Rows.ViewSameCardSaid :=
  Claim7.holds_tied_plain_at .later [] [.data, .handle, .pinned] true (true, "b85b1bf125b68c10cd7ac826d9c38a379201a519b409bfa19fb750864950b995") true
    viewSame_holds (fun _ h => by cases h) (by kernel_rfl) (fun _ h => by cases h) viewSame_row_tie rfl ⟨rfl, rfl⟩ (by kernel_rfl) rfl
    (fun f fn hf hfn => by
      obtain rfl : f = 4 := Option.some.inj ((show Tryz.prog.funcNamed "wharfinger/wharfingerlaw11.ViewSame" = some 4 by kernel_rfl).symm.trans hf) |>.symm
      obtain rfl : fn = Tryz.f4 := (Option.some.inj (Tryz.func4.symm.trans hfn)).symm
      exact ⟨by kernel_rfl, fun j t ht => by
        rw [Tryz.params4] at ht
        have hm : t ∈ [22] := by simpa using Array.mem_of_getElem? ht
        have hall : ([22].all fun u => !Tryz.prog.wantsStandIn u) = true := by kernel_rfl
        exact (show Tryz.prog.wantsStandIn t = false by simpa using List.all_eq_true.1 hall t hm)⟩)
    (by kernel_rfl)
#print axioms viewSame_card
end Go.Proofs.YtlidenehfmlebaaGreatDoor

