/-
  What the operations on a store leave of a version that is looked at.
-/
import Derived.Test.YtpicbimhgicnmaaGreatDoorViewDone
import Derived.Test.YtpicbimhgicnmaaGreatDoorTreeStaysW
import Derived.Test.YtpicbimhgicnmaaGreatDoorTreeBytes
import Derived.Test.YtpicbimhgicnmaaGreatDoorTreeValid
set_option linter.unusedVariables false
set_option linter.unusedSimpArgs false
namespace Go.Proofs.YtpicbimhgicnmaaGreatDoor
open Go.RowKit Go.Maps Go.WideMaps Go.WideAt
theorem valid_forgot {now : Nat} {K : List Int} {F F' : List FileS} (h : Forgot (now : Int) K F F') (ho : (F.map FileS.path).Nodup) (hr : RiseF now F) (hv : ValidT now F) : ValidT now F' := by
  have e : listT now F' now ⟨#[]⟩ = listT now F now ⟨#[]⟩ := h.list ho hr (.inr rfl) (by omega) (by omega) _
  refine ⟨by rw [e]; exact hv.clash, by rw [e]; exact hv.count, ?_⟩
  rw [e]
  refine Nat.le_trans (Nat.le_of_eq ?_) hv.bytes
  unfold sumL
  congr 1
  refine List.map_congr_left (fun p hp => ?_)
  have h1 := data_there hp
  have h2 : readT now F' now p = (dataT now F now p, 0) := by rw [h.read ho hr (.inr rfl)]; exact h1
  rw [read_len h1, read_len h2]
/-- What is kept from operation to operation. -/
structure KeptV (now0 : Nat) (F0 : List FileS) (v : Int) (now : Nat) (F : List FileS) (L : List Int) : Prop where
  rise : RiseF now F
  mem : v ∈ L
  low : 0 ≤ v
  high : v ≤ (now : Int)
  shows : Shows now0 F0 now F v
  valid : ValidT now F
  len : L.length ≤ 64
  vers : ∀ x ∈ L, 0 ≤ x ∧ x ≤ (now : Int)
theorem mem_erase_le {L : List Int} {n x : Int} (h : x ∈ L.erase n) : x ∈ L := List.mem_of_mem_erase h
theorem KeptV.did {now0 : Nat} {F0 : List FileS} {v : Int} {now : Nat} {F : List FileS} {L : List Int} (h : KeptV now0 F0 v now F L) {o : OpV} {k ver : Int} {now' : Nat} {F' : List FileS} {L' : List Int} (hd : DidV now F L o k ver now' F' L') (ho : (F.map FileS.path).Nodup) (hno : ¬ (o.1 = 2 ∧ o.2.1 = v)) :
    KeptV now0 F0 v now' F' L' ∧ now ≤ now' ∧ now' ≤ now + 1 := by
  obtain ⟨h1, h2, h3, h4, h5, h6, h7, h8⟩ := h
  cases hd with
  | refused n cs hc => exact ⟨⟨h1, h2, h3, h4, h5, h6, h7, h8⟩, by omega, by omega⟩
  | made n cs B F1 F' hc hp hf =>
    have hr1 : RiseF ((now + 1 : Nat) : Int) F1 := (rise_puts hp h1 (chkT_once hc).1).1
    have ho1 := (puts_size hp ho).2
    refine ⟨⟨hf.rise hr1, h2, h3, by omega, ?_, valid_forgot hf ho1 hr1 (valid_puts hc hp h1 ho), h7, fun x hx => by have := h8 x hx; omega⟩, by omega, by omega⟩
    exact h5.trans ((shows_puts hp ho h3 h4).trans (shows_forgot hf ho1 hr1 (.inl h2) h3 (by omega)))
  | full n cs hl => exact ⟨⟨h1, h2, h3, h4, h5, h6, h7, h8⟩, by omega, by omega⟩
  | pinned n cs hl =>
    refine ⟨⟨h1, List.mem_append_left _ h2, h3, h4, h5, h6, by rw [List.length_append, List.length_singleton]; omega, fun x hx => ?_⟩, by omega, by omega⟩
    rcases List.mem_append.1 hx with hx | hx
    · exact h8 x hx
    · rw [List.mem_singleton.1 hx]; omega
  | missing n cs hl => exact ⟨⟨h1, h2, h3, h4, h5, h6, h7, h8⟩, by omega, by omega⟩
  | less n cs hm hin =>
    have hne : v ≠ n := fun e => hno ⟨rfl, e.symm⟩
    exact ⟨⟨h1, (List.mem_erase_of_ne hne).2 h2, h3, h4, h5, h6, Nat.le_trans List.length_erase_le h7, fun x hx => h8 x (mem_erase_le hx)⟩, by omega, by omega⟩
  | gone n cs F' hm hin hf =>
    have hne : v ≠ n := fun e => hno ⟨rfl, e.symm⟩
    have hmem := (List.mem_erase_of_ne hne).2 h2
    exact ⟨⟨hf.rise h1, hmem, h3, h4, h5.trans (shows_forgot hf ho h1 (.inl hmem) h3 h4), valid_forgot hf ho h1 h6, Nat.le_trans List.length_erase_le h7, fun x hx => h8 x (mem_erase_le hx)⟩, by omega, by omega⟩
  | other k n cs a b c => exact ⟨⟨h1, h2, h3, h4, h5, h6, h7, h8⟩, by omega, by omega⟩
/-- A version that is looked at is told as a tree tells it. -/
theorem KeptV.there {now0 : Nat} {F0 : List FileS} {v : Int} {now : Nat} {F : List FileS} {L : List Int} (h : KeptV now0 F0 v now F L) : thereV now L v = 0 := by
  unfold thereV
  rw [if_neg (by have := h.low; have := h.high; omega), if_neg (fun e => e.2 h.mem)]
theorem KeptV.list {now0 : Nat} {F0 : List FileS} {v : Int} {now : Nat} {F : List FileS} {L : List Int} (h : KeptV now0 F0 v now F L) (root : ByteArray) : listV now F L v root = listT now0 F0 v root := by
  rw [listV, if_neg (by rw [h.there]; simp), h.shows.list]
theorem KeptV.read {now0 : Nat} {F0 : List FileS} {v : Int} {now : Nat} {F : List FileS} {L : List Int} (h : KeptV now0 F0 v now F L) (p : ByteArray) : readV now F L v p = readT now0 F0 v p := by
  rw [readV, if_neg (by rw [h.there]; simp), h.shows.read]
theorem opVRow_one {W : World} {B : Nat} {A1 : Option Addr} {c1 : Nat} {l1 : List ChgD} (hb : W.heap[B]? = some (Obj.cells #[.int .i64 0, .int .i64 0, .slice A1 l1.length c1] 29 (0, 0)))
    (h1 : l1.length ≤ c1) (r1 : ChgRow W A1 l1) : OpVRow W (some ⟨B, 0, none⟩) [(0, 0, l1)] := fun k hk =>
  match k, hk with
  | 0, _ => ⟨B, 0, A1, c1, rfl, by simp [World.cell?, hb], by simp [World.cell?, hb], by simp [World.cell?, hb], h1, r1⟩
theorem good_fit {l : List ChgD} (h : fitV [(0, 0, l)] = true) (hg : ∀ x ∈ l, ChgArg x) : l.length ≤ 20 ∧ ∀ x ∈ l, GoodC x := by
  obtain ⟨_, h2, _⟩ := fitV_out h
  obtain ⟨a, b⟩ := h2 (0, 0, l) (by simp)
  exact ⟨a, fun c hc => ⟨by have := (b c hc).1; omega, (hg c hc).2.1, (b c hc).2⟩⟩
theorem good_fits {l : List OpV} (h : fitV l = true) (hg : ∀ x ∈ l, OpVArg x) : ∀ o ∈ l, o.2.2.length ≤ 20 ∧ (Lit.int .i64 o.2.1).wf = true ∧ ∀ x ∈ o.2.2, GoodC x := fun o ho => by
  obtain ⟨_, h2, _⟩ := fitV_out h
  obtain ⟨a, b⟩ := h2 o ho
  exact ⟨a, (hg o ho).2.1, fun c hc => ⟨by have := (b c hc).1; omega, ((hg o ho).2.2 c hc).2.1, (b c hc).2⟩⟩
end Go.Proofs.YtpicbimhgicnmaaGreatDoor
