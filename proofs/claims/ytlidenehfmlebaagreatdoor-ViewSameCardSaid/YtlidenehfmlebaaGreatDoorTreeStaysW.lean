/-
  The law TreeStays, walked.
-/
import Derived.Test.YtlidenehfmlebaaGreatDoorTreeScript
import Derived.Outline
set_option linter.unusedVariables false
set_option linter.unusedSimpArgs false
namespace Go.Proofs.YtlidenehfmlebaaGreatDoor
open Go.RowKit Go.Maps Go.WideMaps Go.WideAt
open Go.Proofs.YtlidenehfmlebaaGreatDoorW.PrintWords (Kd ReadsRow)
/-- What a version's files read as. -/
def dataT (now : Nat) (F : List FileS) (v : Int) (p : ByteArray) : List Int := (readT now F v p).1
def wasT (now : Nat) (F : List FileS) (v : Int) (L : List ByteArray) : List ByteArray := L.map fun p => strOfNums (dataT now F v p)
theorem data_there {now : Nat} {F : List FileS} {v : Int} {root q : ByteArray} (h : q ∈ (listT now F v root).1) : readT now F v q = (dataT now F v q, 0) := by
  obtain ⟨_, d, hd⟩ := list_there h
  unfold dataT
  rw [hd]
theorem path_small {w : World} {base g b now : Nat} {F : List FileS} (h : TreeAt w base g b now F) {p : ByteArray} (hp : p ∈ F.map FileS.path) : p.size ≤ maxLen := by
  obtain ⟨f, hf, rfl⟩ := List.mem_map.1 hp
  have := (h.files f hf).2.2.2
  unfold maxLen
  omega
/-- The state between the operations of a script. -/
structure StayAt (w0 : World) (bs g b : Nat) (F1 : List FileS) (A1 A2 : Option Addr) (c1 c2 : Nat) (L W : List ByteArray) (k now : Nat) (F : List FileS) (wr : World) : Prop where
  tree : TreeAt wr bs g b now F
  size : mapN F ≤ 80 + k * 80
  nows : 1 ≤ now ∧ now ≤ 1 + k
  rise : RiseF now F
  shows : Shows 1 F1 now F 1
  list : wr.ownsRow bs 9 1 (.slice A1 L.length c1) L.length (strs L)
  was : wr.ownsRow bs 9 1 (.slice A2 W.length c2) W.length (strs W)
  below : Below w0.heap.size w0 wr
  base : bs ≤ wr.heap.size
theorem StayAt.stay {w0 : World} {bs g b : Nat} {F1 : List FileS} {A1 A2 : Option Addr} {c1 c2 : Nat} {L W : List ByteArray} {k now : Nat} {F : List FileS} {wr w' : World} (h : StayAt w0 bs g b F1 A1 A2 c1 c2 L W k now F wr) (hb : Below wr.heap.size wr w') : StayAt w0 bs g b F1 A1 A2 c1 c2 L W k now F w' :=
  ⟨h.tree.below hb, h.size, h.nows, h.rise, h.shows, own_stay h.list hb, own_stay h.was hb, below_from h.below hb, Nat.le_trans h.base hb.size⟩
theorem StayAt.commit {w0 : World} {bs g b : Nat} {F1 : List FileS} {A1 A2 : Option Addr} {c1 c2 : Nat} {L W : List ByteArray} {k now m : Nat} {F F' : List FileS} {wr w' : World} {now' : Nat} (h : StayAt w0 bs g b F1 A1 A2 c1 c2 L W k now F wr) (hm : Mid g b now m F bs wr w' now' F') (hm80 : m ≤ 80) (hs : ∀ v, 0 ≤ v → v ≤ (now : Int) → Shows now F now' F' v) (hbs : w0.heap.size ≤ bs) : StayAt w0 bs g b F1 A1 A2 c1 c2 L W (k + 1) now' F' w' :=
  ⟨hm.tree, by have := hm.size; have := h.size; omega, by have := hm.now; have := h.nows; omega, hm.rise, h.shows.trans (hs 1 (by omega) (by have := h.nows; omega)), texts_stay h.list hm.frame h.tree, texts_stay h.was hm.frame h.tree, h.below.trans (hm.below.mono hbs), Nat.le_trans h.base hm.below.size⟩
theorem StayAt.forget {w0 : World} {bs g b : Nat} {F1 : List FileS} {A1 A2 : Option Addr} {c1 c2 : Nat} {L W : List ByteArray} {k now n : Nat} {keep : List Int} {F F' : List FileS} {wr w' : World} (h : StayAt w0 bs g b F1 A1 A2 c1 c2 L W k now F wr) (ht : TreeAt w' bs g b now F') (hn : n + mapN F' = mapN F) (hf : Forgot now keep F F') (hg : wr.grownBy w' (some b)) (hk : (1 : Int) ∈ keep) (hbs : w0.heap.size ≤ bs) : StayAt w0 bs g b F1 A1 A2 c1 c2 L W (k + 1) now F' w' :=
  ⟨ht, by have := h.size; omega, by have := h.nows; omega, hf.rise h.rise, h.shows.trans (shows_forgot hf h.tree.once h.rise (.inl hk) (by omega) (by have := h.nows; omega)), texts_map h.list hg h.tree, texts_map h.was hg h.tree,
    h.below.grown hg (Nat.le_trans hbs h.base) (fun j hj => by cases hj; exact Nat.le_trans hbs h.tree.hb), Nat.le_trans h.base hg.size⟩
end Go.Proofs.YtlidenehfmlebaaGreatDoor
