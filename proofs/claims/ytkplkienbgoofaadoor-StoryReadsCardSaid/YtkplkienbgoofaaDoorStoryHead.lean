/-
  The laws' 'tells'.
-/
import Derived.Test.YtkplkienbgoofaaDoorStoryFits
import Derived.Outline
import Derived.Lib.SmallJoins
set_option linter.unusedVariables false
set_option linter.unusedSimpArgs false
namespace Go.Proofs.YtkplkienbgoofaaDoor
open Go.RowKit Go.Maps Go.WideMaps Go.WideAt
/-- One change in memory. -/
theorem chgRow_one {W : World} {B D : Nat} {p : ByteArray} {c' : Nat} {x : Int} {gn : Bool} {cur : Array Value} {fz : Nat × Nat} (hb : W.heap[B]? = some (Obj.cells #[.string p, .slice (some ⟨D, 0, none⟩) 1 c', .bool gn] 42 (0, 0))) (hd : W.heap[D]? = some (Obj.cells cur 5 fz)) (h0 : cur[0]? = some (.int .u8 x)) (hc : 1 ≤ c') : ChgRow W (some ⟨B, 0, none⟩) [(p, [x], gn)] := by
  intro k hk
  obtain rfl : k = 0 := by simp at hk; omega
  refine ⟨B, 0, some ⟨D, 0, none⟩, c', rfl, by simp [World.cell?, hb], by simp [World.cell?, hb], by simp [World.cell?, hb], hc, fun ad e j u hj => ?_, fun e => by cases e⟩
  cases e
  obtain rfl : j = 0 := by
    have := (List.getElem?_eq_some_iff.1 hj).1
    simpa [u8V] using this
  have hu : u = .int .u8 x := by simpa [u8V] using hj.symm
  subst hu
  simp [World.cell?, hd, h0, Addr.add]
theorem alloc_stays {w : World} {o x : Obj} {k : Nat} (h : w.heap[k]? = some x) : (w.alloc o).heap[k]? = some x := ((below_one w o).block k (lt_of_block h)).trans h
theorem alloc_at (w : World) (o : Obj) {k : Nat} (h : k = w.heap.size) : (w.alloc o).heap[k]? = some o := by rw [h]; exact heap_alloc_new w o
def raT : ByteArray := ⟨#[114, 47, 97]⟩
def ev1 : EvD := (true, 0, 1, ⟨#[]⟩, ⟨#[]⟩, [(raT, [120], false)])
def ev2 : EvD := (false, 0, 1, ⟨#[114]⟩, ⟨#[]⟩, [(⟨#[97]⟩, [120], false)])
def ev3 : EvD := (false, 0, 0, ⟨#[114]⟩, ⟨#[]⟩, [(raT, [120], false)])
theorem replay12 : replayM [[]] 0 [ev1, ev2] = .ok [[], [(raT, ⟨#[120]⟩)]] := by kernel_rfl
theorem replay3 : replayM [[]] 0 [ev3] = .error 0 := by kernel_rfl
theorem good12 : ∀ e ∈ [ev1, ev2], EvGood e := by
  intro e he
  rcases List.mem_cons.1 he with rfl | he
  · exact ⟨by decide, by decide, by decide, fun x hx => by rw [List.mem_singleton.1 hx]; exact ⟨by decide, by decide⟩⟩
  · rw [List.mem_singleton.1 he]
    exact ⟨by decide, by decide, by decide, fun x hx => by rw [List.mem_singleton.1 hx]; exact ⟨by decide, by decide⟩⟩
theorem good3 : ∀ e ∈ [ev3], EvGood e := by
  intro e he
  rw [List.mem_singleton.1 he]
  exact ⟨by decide, by decide, by decide, fun x hx => by rw [List.mem_singleton.1 hx]; exact ⟨by decide, by decide⟩⟩
def tw1 (w : World) : World := w.alloc (.cells #[.int .u8 120] 5 (1, 2))
def tw2 (w : World) : World := (tw1 w).alloc (.cells #[.string raT, .slice (some ⟨w.heap.size, 0, none⟩) 1 1, .bool false] 42)
def tw3 (w : World) : World := (tw2 w).alloc (.cells #[.int .u8 120] 5 (1, 2))
def tw4 (w : World) : World := (tw3 w).alloc (.cells #[.string ⟨#[97]⟩, .slice (some ⟨w.heap.size + 1 + 1, 0, none⟩) 1 1, .bool false] 42)
def tw5 (w : World) : World := (tw4 w).alloc (.cells #[.bool true, .int .i64 0, .int .i64 1, .string ⟨#[]⟩, .string ⟨#[]⟩, .slice (some ⟨w.heap.size + 1, 0, none⟩) 1 1, .bool false, .int .i64 0, .int .i64 1, .string ⟨#[114]⟩, .string ⟨#[]⟩, .slice (some ⟨w.heap.size + 1 + 1 + 1, 0, none⟩) 1 1] 28)
theorem tells_mem (w : World) : EvRow (tw5 w) (some ⟨w.heap.size + 1 + 1 + 1 + 1, 0, none⟩) [ev1, ev2] ∧ ChgRow (tw5 w) (some ⟨w.heap.size + 1, 0, none⟩) [(raT, [120], false)] ∧ Below w.heap.size w (tw5 w) := by
  have z1 : (tw1 w).heap.size = w.heap.size + 1 := by simp [tw1]
  have z2 : (tw2 w).heap.size = w.heap.size + 1 + 1 := by simp [tw2, z1]
  have z3 : (tw3 w).heap.size = w.heap.size + 1 + 1 + 1 := by simp [tw3, z2]
  have z4 : (tw4 w).heap.size = w.heap.size + 1 + 1 + 1 + 1 := by simp [tw4, z3]
  have g0 : (tw5 w).heap[w.heap.size]? = some (.cells #[.int .u8 120] 5 (1, 2)) := alloc_stays (alloc_stays (alloc_stays (alloc_stays (alloc_at w _ rfl))))
  have g1 : (tw5 w).heap[w.heap.size + 1]? = some (.cells #[.string raT, .slice (some ⟨w.heap.size, 0, none⟩) 1 1, .bool false] 42) := alloc_stays (alloc_stays (alloc_stays (alloc_at (tw1 w) _ z1.symm)))
  have g2 : (tw5 w).heap[w.heap.size + 1 + 1]? = some (.cells #[.int .u8 120] 5 (1, 2)) := alloc_stays (alloc_stays (alloc_at (tw2 w) _ z2.symm))
  have g3 : (tw5 w).heap[w.heap.size + 1 + 1 + 1]? = some (.cells #[.string ⟨#[97]⟩, .slice (some ⟨w.heap.size + 1 + 1, 0, none⟩) 1 1, .bool false] 42) := alloc_stays (alloc_at (tw3 w) _ z3.symm)
  have g4 := alloc_at (tw4 w) (.cells #[.bool true, .int .i64 0, .int .i64 1, .string ⟨#[]⟩, .string ⟨#[]⟩, .slice (some ⟨w.heap.size + 1, 0, none⟩) 1 1, .bool false, .int .i64 0, .int .i64 1, .string ⟨#[114]⟩, .string ⟨#[]⟩, .slice (some ⟨w.heap.size + 1 + 1 + 1, 0, none⟩) 1 1] 28) z4.symm
  refine ⟨fun k hk => ?_, chgRow_one g1 g0 rfl (Nat.le_refl _), ?_⟩
  · have g4' : (tw5 w).heap[w.heap.size + 1 + 1 + 1 + 1]? = _ := g4
    match k, hk with
    | 0, _ => exact ⟨_, 0, _, 1, rfl, by simp [World.cell?, g4', ev1], by simp [World.cell?, g4', ev1], by simp [World.cell?, g4', ev1], by simp [World.cell?, g4', ev1], by simp [World.cell?, g4', ev1], by simp [World.cell?, g4', ev1], Nat.le_refl _, chgRow_one g1 g0 rfl (Nat.le_refl _)⟩
    | 1, _ => exact ⟨_, 0, _, 1, rfl, by simp [World.cell?, g4', ev2], by simp [World.cell?, g4', ev2], by simp [World.cell?, g4', ev2], by simp [World.cell?, g4', ev2], by simp [World.cell?, g4', ev2], by simp [World.cell?, g4', ev2], Nat.le_refl _, chgRow_one g3 g2 rfl (Nat.le_refl _)⟩
  · exact below_from (below_from (below_from (below_from (below_one w _) (below_one (tw1 w) _)) (below_one (tw2 w) _)) (below_one (tw3 w) _)) (below_one (tw4 w) _)
theorem evRow_one {W : World} {B : Nat} {e : EvD} {A' : Option Addr} {c' : Nat} (hb : W.heap[B]? = some (Obj.cells #[.bool e.1, .int .i64 e.2.1, .int .i64 e.2.2.1, .string e.2.2.2.1, .string e.2.2.2.2.1, .slice A' e.2.2.2.2.2.length c'] 28 (0, 0))) (hc : e.2.2.2.2.2.length ≤ c') (h : ChgRow W A' e.2.2.2.2.2) : EvRow W (some ⟨B, 0, none⟩) [e] := by
  intro k hk
  obtain rfl : k = 0 := by simp at hk; omega
  exact ⟨B, 0, A', c', rfl, by simp [World.cell?, hb], by simp [World.cell?, hb], by simp [World.cell?, hb], by simp [World.cell?, hb], by simp [World.cell?, hb], by simp [World.cell?, hb], hc, h⟩
set_option maxRecDepth 100000 in
set_option maxHeartbeats 1000000 in
theorem tells_any (w : World) (hg : Env w) : Calls Tryd.prog 4 #[] w fun e w' => e = .returned (.bool true) ∧ Below w.heap.size w w' := by
  have HG := Lib.hid hg
  have vx := fun (W : World) (g : Nat) (hg : g = W.heap.size) => Go.Joins.run_convert_bytes_const_at (P := Tryd.prog) W 40 5 #[.int .u8 120] 1 1 g hg Tryd.underlying40 Tryd.underlying5
  clear hg
  go_enter Tryd.func4, Tryd.ntmps4
  go_wp2_with fail
  obtain ⟨hev, hch, hb5⟩ := tells_mem w
  have HB5 := Lib.hid hb5
  have HCH := Lib.hid hch
  refine (replay_any (some ⟨w.heap.size + 1 + 1 + 1 + 1, 0, none⟩) 2 [ev1, ev2] (tw5 w) (by simp) hev good12).mono ?_
  clear hev hch hb5
  rintro e w6 (⟨Ms, bs, A, c, hre, rfl, hma, hb6⟩ | ⟨i, b, hre, _⟩)
  · rw [replay12] at hre
    injection hre with hre
    subst hre
    have HCH6 := Lib.hid (HCH.out.below hb6)
    have HB6 := Lib.hid (below_from HB5.out hb6)
    have HMA := Lib.hid hma
    clear hma hb6
    go_wp2_with fail
    have hb1 := below_one w6 (.cells #[.bool false, .int .i64 0, .int .i64 0, .string ⟨#[114]⟩, .string ⟨#[]⟩, .slice (some ⟨w.heap.size + 1, 0, none⟩) 1 1] 28)
    have HMA7 := Lib.hid (HMA.out.below hb1)
    have HB7 := Lib.hid (below_from HB6.out hb1)
    refine (replay_any (some ⟨w6.heap.size, 0, none⟩) 1 [ev3] _ (by simp) (evRow_one (e := ev3) (heap_alloc_new w6 _) (Nat.le_refl _) (HCH6.out.below hb1)) good3).mono ?_
    clear hb1
    rintro e w8 (⟨Ms, bs2, A2, c2, hre, _⟩ | ⟨i, b, hre, rfl, hft, hb8⟩)
    · rw [replay3] at hre
      cases hre
    · rw [replay3] at hre
      injection hre with hre
      subst hre
      have hma8 := HMA7.out.below hb8
      obtain ⟨gr, orr, cr, hA, _, hcells⟩ := hma8.row (by simp)
      have hA2 : A = some ⟨gr, orr, none⟩ := by injection hA
      subst hA2
      have hbl : bs.length = 2 := hma8.len
      have x1 := hcells 1 (by omega)
      have hm1 : FMapAt w8 bs[1] [(raT, ⟨#[120]⟩)] := hma8.maps 1 (by omega) (by simp)
      have HM1 := Lib.hid hm1
      have HFT := Lib.hid hft
      have HB8 := Lib.hid (below_from HB7.out hb8)
      have HG8 := Lib.hid (HG.out.below HB8.out)
      generalize bs[1] = b1 at *
      have hlk : (Instr.lookup 38 (.map (some b1)) (.string ⟨#[114, 47, 97]⟩) false).run Tryd.prog w8 = .ok (.string ⟨#[120]⟩) w8 := by
        have := hm1.look Tryd.underlying38 raT (by decide)
        rw [show getM [(raT, (⟨#[120]⟩ : ByteArray))] raT = some ⟨#[120]⟩ by kernel_rfl] at this
        exact this
      clear hA hcells hma8 hm1 hft hb8
      go_wp2_with fail
      refine (paths_any b1 [(raT, ⟨#[120]⟩)] w8 (by simp) HM1.out).mono ?_
      rintro e w9 ⟨A9, c9, K, rfl, _, hpo, _, _, hb9⟩
      have hK1 : K.length = 1 := by rw [hpo.len]; rfl
      have HFT9 := Lib.hid (HFT.out.below hb9)
      have HB9 := Lib.hid (below_from HB8.out hb9)
      have HG9 := Lib.hid (HG8.out.below hb9)
      rw [hK1]
      clear hpo hb9 hlk hK1
      go_wp2_with fail
      refine (number _ (.fault 0 31) w9 ⟨b, rfl, HFT9.out⟩ HG9.out).mono ?_
      rintro e wa ⟨rfl, hba⟩
      have HFTa := Lib.hid (HFT9.out.below hba)
      have HBa := Lib.hid (below_from HB9.out hba)
      have HGa := Lib.hid (HG9.out.below hba)
      clear hba
      simp only [GErr.num]
      go_wp2_with fail
      refine (place _ (.fault 0 31) wa ⟨b, rfl, HFTa.out⟩ HGa.out).mono ?_
      rintro e wb ⟨rfl, hbb⟩
      simp only [GErr.place]
      go_wp2_with fail
      go_ret
      exact ⟨rfl, below_from HBa.out hbb⟩
  · rw [replay12] at hre
    cases hre
end Go.Proofs.YtkplkienbgoofaaDoor
