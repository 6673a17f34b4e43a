/-
  A configuration that is handed in: its modules, read.
-/
import Derived.Test.YtddnfooachibiaaGreatDoorConfMem
import Derived.Test.YtddnfooachibiaaGreatDoorArgs2
set_option linter.unusedVariables false
set_option linter.unusedSimpArgs false
namespace Go.Proofs.YtddnfooachibiaaGreatDoor
open Go.RowKit Go.Maps Go.WideMaps Go.WideAt
open Go.Proofs.YtddnfooachibiaaGreatDoorW.PrintWords (Kd ReadsRow)
/-- Cells that are read make a row. -/
theorem row_of {α : Type} {size : Nat} {w : World} {A : Option Addr} {n c : Nat} {q : List α} {cells : α → List Value} (hs : 0 < size) (hsz : ∀ a, (cells a).length = size) (hn : q.length = n) (hc : n ≤ c)
    (h : 0 < n → ∃ ad : Addr, A = some ad ∧ ∀ j (hj : j < q.length) i u, (cells q[j])[i]? = some u → w.cell? (ad.add (j * size + i)) = some u) : RowIn w (.slice A n c) n (q.flatMap cells) := by
  refine ⟨A, c, rfl, hc, fun hx => ?_⟩
  have hfl := flatH_len hsz q
  have hn0 : 0 < n := by
    rcases Nat.eq_zero_or_pos n with e | e
    · rw [hfl, hn, e] at hx; omega
    · exact e
  obtain ⟨⟨b, off, sp⟩, e, hcell⟩ := h hn0
  have h0 := hcell 0 (by omega) 0 _ (List.getElem?_eq_getElem (by rw [hsz]; exact hs))
  have hsp : sp = none := by
    cases sp with
    | none => rfl
    | some x =>
      exfalso
      simp only [Addr.add, World.cell?] at h0
      split at h0
      · simp at h0
      · cases h0
  subst hsp
  have hlt := lt_of_cell h0
  rw [Addr.add_lit] at hlt
  refine ⟨b, off, e, hlt, fun j hj => ?_⟩
  rw [hfl] at hj
  have hk : j / size < q.length := Nat.div_lt_of_lt_mul (by rw [Nat.mul_comm]; exact hj)
  have hm : j % size < size := Nat.mod_lt _ hs
  have hg := flatH_get hsz q (j / size) hk (j % size) hm
  have hd : j / size * size + j % size = j := by rw [Nat.mul_comm]; exact Nat.div_add_mod j size
  rw [hd, List.getElem?_eq_getElem (by rw [hfl]; exact hj)] at hg
  have := hcell (j / size) hk (j % size) _ hg.symm
  rw [hd, Addr.add_lit] at this
  exact this
theorem arg_agg {α : Type} {P : Program} {t : TypeId} {d : Kd α} {good : α → Prop} (ho : Opens P t d good)
    {H : Type} {enc : TypeId × Value → H} {w : World} {base : Nat} {spare : Nat → Bool} {held : Bool} {v : Value} {x : DataW H} {ps : List MemPlace}
    (h : DataW.Trod enc P w base spare held t v x ps) : ∃ y, d.K w y v.cells.toList ∧ good y := by
  obtain ⟨fuel, hf⟩ := h
  exact ho hf
theorem okWide_arr {P : Program} {w : World} {r : Go.Reach} {base : Nat} {t e : TypeId} {v : Value} {n : Nat} (ht : P.underlying t = some (.array n e)) (h : Value.okWide P w r base t v) : ∃ cs, v = .agg cs ∧ cs.size = P.cellsOf t := by
  unfold Value.okWide at h
  rw [ht] at h
  obtain ⟨cs, h1, h2, _⟩ := h
  exact ⟨cs, h1, h2⟩
abbrev kUsr : Kd (ByteArray × ByteArray) := Kd.pair Kd.string Kd.string
abbrev kMd : Kd (ByteArray × ByteArray × Bool × Int × Int × List (ByteArray × ByteArray)) := Kd.pair Kd.string (Kd.pair Kd.string (Kd.pair Kd.bool (Kd.pair (Kd.int .i64) (Kd.pair (Kd.int .i64) (Kd.slice 54 kUsr)))))
theorem users_of {w : World} {A : Option Addr} {c : Nat} {us : List (ByteArray × ByteArray)} (hc : us.length ≤ c) (h : kUsr.C w A us.length us) : UsersIn w (.slice A us.length c) us := by
  obtain ⟨_, _, hr⟩ := h
  refine row_of (size := 2) (cells := fun u : ByteArray × ByteArray => [Value.string u.1, Value.string u.2]) (by decide) (fun _ => rfl) rfl hc (fun hn => ?_)
  obtain ⟨ad, e, hcell⟩ := hr hn
  refine ⟨ad, e, fun j hj i u hu => ?_⟩
  obtain ⟨cs, _, ⟨c0, c1, rfl, h0, h1⟩, h2⟩ := hcell j _ (List.getElem?_eq_getElem hj)
  replace h0 : c0 = [Value.string us[j].1] := h0
  replace h1 : c1 = [Value.string us[j].2] := h1
  subst h0 h1
  exact h2 i u hu
def mdOf (p : ByteArray × ByteArray × Bool × Int × Int × List (ByteArray × ByteArray)) : ModC := ⟨p.1, p.2.1, p.2.2.1, p.2.2.2.1, p.2.2.2.2.1, p.2.2.2.2.2⟩
theorem mods_of {w : World} {A : Option Addr} {c : Nat} {xs : List (ByteArray × ByteArray × Bool × Int × Int × List (ByteArray × ByteArray))} (hc : xs.length ≤ c) (h : kMd.C w A xs.length xs) :
    ∃ q : List MRow, q.length = xs.length ∧ q.map MRow.md = xs.map mdOf ∧ ModsIn w (.slice A xs.length c) q := by
  obtain ⟨_, _, hr⟩ := h
  have key : ∀ i, i < xs.length → ∃ r : MRow, (∀ hi : i < xs.length, r.md = mdOf xs[i]) ∧ UsersIn w r.uv r.md.us ∧ ∀ ad, A = some ad → ∀ k u, r.cells[k]? = some u → w.cell? (ad.add (i * 6 + k)) = some u := by
    intro i hi
    obtain ⟨ad, e, hcell⟩ := hr (by omega)
    obtain ⟨cs, _, ⟨c0, d0, rfl, h0, c1, d1, rfl, h1, c2, d2, rfl, h2, c3, d3, rfl, h3, c4, c5, rfl, h4, Au, cu, rfl, hcu, hu⟩, hm⟩ := hcell i _ (List.getElem?_eq_getElem hi)
    refine ⟨⟨mdOf xs[i], .slice Au xs[i].2.2.2.2.2.length cu⟩, fun _ => rfl, users_of hcu hu, fun ad' e' k u hk => ?_⟩
    rw [e] at e'
    injection e' with e'
    subst e'
    replace h0 : c0 = [Value.string xs[i].1] := h0
    replace h1 : c1 = [Value.string xs[i].2.1] := h1
    replace h2 : c2 = [Value.bool xs[i].2.2.1] := h2
    replace h3 : c3 = [Value.int .i64 xs[i].2.2.2.1] := h3
    replace h4 : c4 = [Value.int .i64 xs[i].2.2.2.2.1] := h4
    subst h0 h1 h2 h3 h4
    exact hm k u hk
  obtain ⟨q, hql, hq⟩ := list_of (Q := fun i (r : MRow) => (∀ hi : i < xs.length, r.md = mdOf xs[i]) ∧ UsersIn w r.uv r.md.us ∧ ∀ ad, A = some ad → ∀ k u, r.cells[k]? = some u → w.cell? (ad.add (i * 6 + k)) = some u) xs.length key
  refine ⟨q, hql, ?_, ⟨?_, fun r hr => ?_⟩⟩
  · apply List.ext_getElem (by simp [hql])
    intro i h1 h2
    simp only [List.length_map] at h1 h2
    rw [List.getElem_map, List.getElem_map]
    exact (hq i _ (List.getElem?_eq_getElem h1)).1 h2
  · rw [hql]
    refine row_of (size := 6) (cells := MRow.cells) (by decide) MRow.cells_len hql hc (fun hn => ?_)
    obtain ⟨ad, e, _⟩ := hr hn
    exact ⟨ad, e, fun j hj i u hu => (hq j _ (List.getElem?_eq_getElem hj)).2.2 ad e i u hu⟩
  · obtain ⟨i, hi, rfl⟩ := List.getElem_of_mem hr
    exact (hq i _ (List.getElem?_eq_getElem hi)).2.1
end Go.Proofs.YtddnfooachibiaaGreatDoor
