/-
  A store at which nobody looks keeps just the states of its last version.
-/
import Derived.Test.YtpicbimhgicnmaaGreatDoorViewHoldsP
set_option linter.unusedVariables false
set_option linter.unusedSimpArgs false
namespace Go.Proofs.YtpicbimhgicnmaaGreatDoor
open Go.RowKit Go.Maps Go.WideMaps Go.WideAt
/-- With nothing to be kept at most one state is kept. -/
theorem kept_single {now : Int} : ∀ {rows : List SRow}, (∀ r ∈ rows, r.ver ≤ now) → (keptR now [] rows).length ≤ 1 ∧ ∀ r ∈ keptR now [] rows, r ∈ rows
  | [], _ => ⟨by simp [keptR], fun r h => by simp [keptR] at h⟩
  | s :: rest, h => by
    have ih := kept_single (rows := rest) (fun r hr => h r (by simp [hr]))
    rw [keptR]
    cases rest with
    | nil =>
      split
      · exact ⟨by simp [keptR], fun r hr => by simpa [keptR] using hr⟩
      · exact ⟨by simp [keptR], fun r hr => by simp [keptR] at hr⟩
    | cons t u =>
      have hn : needR now [] s (t :: u) = false := by
        have ht := h t (by simp)
        have hd : decide (toR now (t :: u) = now) = false := decide_eq_false (by show ¬ t.ver - 1 = now; omega)
        rw [needR, hd]
        rfl
      rw [if_neg (by rw [hn]; simp)]
      exact ⟨ih.1, fun r hr => by simp [ih.2 r hr]⟩
theorem forget_single {now : Int} {rows : List SRow} (h : ∀ r ∈ rows, r.ver ≤ now) (hn : forgetR now [] rows ≠ []) : ∃ r, forgetR now [] rows = [r] ∧ r.gone = false ∧ r ∈ rows := by
  obtain ⟨h1, h2⟩ := kept_single h
  unfold forgetR at hn ⊢
  cases hk : keptR now [] rows with
  | nil => rw [hk] at hn; simp at hn
  | cons r t =>
    rw [hk] at h1 hn
    have ht : t = [] := List.length_eq_zero_iff.1 (by rw [List.length_cons] at h1; omega)
    subst ht
    have hg : r.gone = false := by
      cases hg : r.gone with
      | false => rfl
      | true => simp [hg] at hn
    exact ⟨r, by simp [hg], hg, h2 r (by rw [hk]; simp)⟩
def Single (now : Nat) (F : List FileS) : Prop := ∀ f ∈ F, ∃ r, f.rows = [r] ∧ r.gone = false ∧ r.ver ≤ (now : Int)
theorem single_forgot {now : Nat} {F F' : List FileS} (h : Forgot (now : Int) [] F F') (hr : RiseF (now : Int) F) : Single now F' := fun f hf => by
  obtain ⟨f0, h0, _, e, hn⟩ := h.mem hf
  have hle := fun r hr2 => ((hr f0 h0).2 r hr2).2
  obtain ⟨r, h1, h2, h3⟩ := forget_single hle (by rw [← e]; exact hn)
  exact ⟨r, by rw [e, h1], h2, hle r h3⟩
/-- What is kept while nobody asks. -/
structure LittleV (now : Nat) (F : List FileS) (L : List Int) : Prop where
  rise : RiseF now F
  len : L.length ≤ 64
  vers : ∀ x ∈ L, 0 ≤ x ∧ x ≤ (now : Int)
  single : L = [] → Single now F
  paths : ∀ f ∈ F, checkB f.path = none
theorem little_none : LittleV 0 [] [] := ⟨rise_none _, by simp, (fun x hx => by cases hx), (fun _ f hf => by cases hf), (fun f hf => by cases hf)⟩
theorem paths_forgot {now : Int} {K : List Int} {F F' : List FileS} (h : Forgot now K F F') (hp : ∀ f ∈ F, checkB f.path = none) : ∀ f ∈ F', checkB f.path = none := fun f hf => by
  obtain ⟨f0, h0, e, _, _⟩ := h.mem hf
  rw [← e]
  exact hp f0 h0
theorem LittleV.did {now : Nat} {F : List FileS} {L : List Int} (h : LittleV now F L) {o : OpV} {k ver : Int} {now' : Nat} {F' : List FileS} {L' : List Int} (hd : DidV now F L o k ver now' F' L') (ho : (F.map FileS.path).Nodup) :
    LittleV now' F' L' ∧ now ≤ now' ∧ now' ≤ now + 1 := by
  obtain ⟨h1, h2, h3, h4, h5⟩ := h
  cases hd with
  | refused n cs hc => exact ⟨⟨h1, h2, h3, h4, h5⟩, by omega, by omega⟩
  | made n cs B F1 F' hc hp hf =>
    have hr1 : RiseF ((now + 1 : Nat) : Int) F1 := (rise_puts hp h1 (chkT_once hc).1).1
    refine ⟨⟨hf.rise hr1, h2, (fun x hx => by have := h3 x hx; omega), (fun e => ?_), paths_forgot hf (fun f hf1 => ?_)⟩, by omega, by omega⟩
    · subst e
      exact single_forgot hf hr1
    · rcases puts_paths hp f hf1 with h | h
      · obtain ⟨f0, h0, e⟩ := List.mem_map.1 h
        rw [← e]; exact h5 f0 h0
      · obtain ⟨c, hcl, e⟩ := List.mem_map.1 h
        rw [← e]; exact (chkT_once hc).2.1 c hcl
  | full n cs hl => exact ⟨⟨h1, h2, h3, h4, h5⟩, by omega, by omega⟩
  | pinned n cs hl =>
    refine ⟨⟨h1, by rw [List.length_append, List.length_singleton]; omega, (fun x hx => ?_), (fun e => by simp at e), h5⟩, by omega, by omega⟩
    rcases List.mem_append.1 hx with hx | hx
    · exact h3 x hx
    · rw [List.mem_singleton.1 hx]; omega
  | missing n cs hl => exact ⟨⟨h1, h2, h3, h4, h5⟩, by omega, by omega⟩
  | less n cs hm hin => exact ⟨⟨h1, Nat.le_trans List.length_erase_le h2, (fun x hx => h3 x (mem_erase_le hx)), (fun e => by rw [e] at hin; cases hin), h5⟩, by omega, by omega⟩
  | gone n cs F' hm hin hf =>
    refine ⟨⟨hf.rise h1, Nat.le_trans List.length_erase_le h2, fun x hx => h3 x (mem_erase_le hx), fun e => ?_, paths_forgot hf h5⟩, by omega, by omega⟩
    rw [e] at hf
    exact single_forgot hf h1
  | other k n cs a b c => exact ⟨⟨h1, h2, h3, h4, h5⟩, by omega, by omega⟩
/-- Nobody looks: as many states as files. -/
theorem LittleV.states {now : Nat} {F : List FileS} {L : List Int} (h : LittleV now F L) (ho : (F.map FileS.path).Nodup) (he : L = []) : (listT now F now ⟨#[]⟩).1.length = mapN F := by
  have hs := h.single he
  have hall : ∀ p ∈ F.map FileS.path, listedB F now ⟨#[]⟩ p = true := fun p hp => by
    obtain ⟨f, hf, rfl⟩ := List.mem_map.1 hp
    obtain ⟨r, h1, h2, h3⟩ := hs f hf
    have hro := rowsOf_mem ho hf
    have hat : atRow F now f.path = some r := by
      unfold atRow
      unfold rowsOf at hro
      cases hc : fileOf F f.path with
      | none => exact absurd rfl (fileOf_none hc f hf)
      | some f' =>
        rw [hc] at hro
        have hro2 : f'.rows = f.rows := hro
        show lastK f'.rows now f'.rows.length = some r
        rw [hro2, h1]
        simp [lastK, h3]
    unfold listedB thereB
    rw [hat, beneath_root.2 (check_nonempty (h.paths f hf))]
    simp [h2]
  have hlen : ∀ l : List FileS, (∀ f ∈ l, f.rows.length = 1) → mapN l = l.length := fun l hl => by
    induction l with
    | nil => rfl
    | cons a t ih =>
      have := ih (fun f hf => hl f (by simp [hf]))
      have := hl a (by simp)
      simp only [mapN, List.map_cons, List.sum_cons, List.length_cons] at *
      omega
  rw [listT, if_neg (by omega), sortB_len, List.filter_eq_self.2 hall, List.length_map, hlen F (fun f hf => by obtain ⟨r, h1, _⟩ := hs f hf; rw [h1]; rfl)]
/-- A look less is an operation. -/
theorem unpin_did {s g b pm now : Nat} {F : List FileS} {L : List Int} {v : Int} {base : Nat} {w : World} {e : Ending} {w' : World} (hp : UnpinPost s g b pm now F L v base w e w') (hin : v ∈ L) :
    ∃ F', e = .returned (.int .i64 0) ∧ DidV now F L (2, v, []) 0 0 now F' (L.erase v) ∧ mapN F' ≤ mapN F ∧ StoreAt w' base s g b pm now F' (L.erase v) ∧ Below base w w' ∧ SFrame w w' := by
  rcases hp with ⟨hno, _⟩ | ⟨_, F', rfl, h1, h2, h3, h4, h5, h6⟩
  · exact absurd hin hno
  · refine ⟨F', rfl, ?_, h3, h4, h5, h6⟩
    by_cases hie : v ∈ L.erase v
    · rw [h1 hie]
      exact .less v [] hin hie
    · exact .gone v [] F' hin hie (h2 hie)
end Go.Proofs.YtpicbimhgicnmaaGreatDoor
