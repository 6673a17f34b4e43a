/-
  Replay: the maps behind each version, if all that took effect could have.
-/
import Derived.Test.YtkplkienbgoofaaDoorStoryHas
import Derived.Test.YtkplkienbgoofaaDoorAppKeep
import Derived.Deep.RegionWith
import Derived.Deep.RegionLaw
import Derived.IntWalk
import Derived.Deep.RegionHeld3
import Derived.Deep.CutRange
set_option linter.unusedVariables false
set_option linter.unusedSimpArgs false
namespace Go.Proofs.YtkplkienbgoofaaDoor
open Go.RowKit Go.Maps Go.WideMaps Go.WideAt
theorem infoMap : (Tryd.prog.info? 38).map (fun i => (i.zero, i.size, i.bytes)) = some (some (.map none), 1, 8) := by kernel_rfl
/-- Events in memory. -/
def EvRow (w : World) (A : Option Addr) (l : List EvD) : Prop := ∀ k (h : k < l.length), ∃ b off A' c', A = some ⟨b, off, none⟩ ∧ w.cell? ⟨b, off + k * 6, none⟩ = some (.bool l[k].1) ∧ w.cell? ⟨b, off + k * 6 + 1, none⟩ = some (.int .i64 l[k].2.1) ∧ w.cell? ⟨b, off + k * 6 + 2, none⟩ = some (.int .i64 l[k].2.2.1) ∧ w.cell? ⟨b, off + k * 6 + 3, none⟩ = some (.string l[k].2.2.2.1) ∧ w.cell? ⟨b, off + k * 6 + 4, none⟩ = some (.string l[k].2.2.2.2.1) ∧
  w.cell? ⟨b, off + k * 6 + 5, none⟩ = some (.slice A' l[k].2.2.2.2.2.length c') ∧ l[k].2.2.2.2.2.length ≤ c' ∧ ChgRow w A' l[k].2.2.2.2.2
theorem EvRow.below {w w' : World} {A : Option Addr} {l : List EvD} (h : EvRow w A l) (hb : Below w.heap.size w w') : EvRow w' A l := fun k hk => by
  obtain ⟨b, off, A', c', h0, h1, h2, h3, h4, h5, h6, h7, h8⟩ := h k hk
  exact ⟨b, off, A', c', h0, cell_below hb h1, cell_below hb h2, cell_below hb h3, cell_below hb h4, cell_below hb h5, cell_below hb h6, h7, h8.below hb⟩
/-- A row of maps of its own. -/
structure MapsAt (w : World) (base : Nat) (v : Value) (Ms : List FM) (bs : List Nat) : Prop where
  len : bs.length = Ms.length
  own : OffRow w base 38 1 v Ms.length (bs.map fun b => .map (some b))
  maps : ∀ j (h1 : j < bs.length) (h2 : j < Ms.length), FMapAt w bs[j] Ms[j]
theorem MapsAt.below {w w' : World} {base : Nat} {v : Value} {Ms : List FM} {bs : List Nat} (h : MapsAt w base v Ms bs) (hb : Below w.heap.size w w') : MapsAt w' base v Ms bs := ⟨h.len, h.own.stay hb, fun j h1 h2 => (h.maps j h1 h2).below hb⟩
theorem MapsAt.row {w : World} {base : Nat} {v : Value} {Ms : List FM} {bs : List Nat} (h : MapsAt w base v Ms bs) (hn : 0 < Ms.length) : ∃ g o c, v = .slice (some ⟨g, o, none⟩) Ms.length c ∧ Ms.length ≤ c ∧ ∀ k (h : k < bs.length), w.cell? ⟨g, o + k, none⟩ = some (.map (some bs[k])) := by
  obtain ⟨g, o, c, rfl, h1, _, _, h2⟩ := h.own.form hn
  refine ⟨g, o, c, rfl, h1, fun k hk => ?_⟩
  rw [h2 k (by have := h.len; omega)]
  simp [hk]
/-- The maps behind each version, or the event that couldn't. -/
def replayM : List FM → Nat → List EvD → Except Nat (List FM)
  | Ms, _, [] => .ok Ms
  | Ms, i, e :: t =>
    if e.1 && decide (e.2.2.1 = (Ms.length : Int)) then replayM (Ms ++ [applyM (Ms.getLastD []) e.2.2.2.2.2]) (i + 1) t
    else if !e.1 && decide (0 ≤ e.2.2.1) && decide (e.2.2.1 < (Ms.length : Int)) && hasM (Ms.getD e.2.2.1.toNat []) e.2.2.2.1 e.2.2.2.2.1 e.2.2.2.2.2 then replayM Ms (i + 1) t
    else .error i
def ReplayPost (l : List EvD) (w : World) (e : Ending) (w' : World) : Prop :=
  (∃ Ms bs A c, replayM [[]] 0 l = .ok Ms ∧ e = .returned (.tuple #[.slice A Ms.length c, .nilIface]) ∧ MapsAt w' w.heap.size (.slice A Ms.length c) Ms bs ∧ Below w.heap.size w w') ∨
  (∃ i b, replayM [[]] 0 l = .error i ∧ e = .returned (.tuple #[.slice none 0 0, .iface 49 (.pointer (some ⟨b, 0, none⟩))]) ∧ FaultAt w' b (i : Int) 31 ∧ Below w.heap.size w w')
theorem fault_new (w : World) (p : Int) (e : Int) : FaultAt (w.alloc (.cells #[.int .i64 p, .int .i64 e] 51)) w.heap.size p e := ⟨by simp, by simp, _, _, heap_alloc_new _ _⟩
/-- What Replay reads of an event, and of its row of maps. -/
def HeldE (w : World) (k g o : Nat) (who ver : Int) (mo ro : ByteArray) (fv mv : Value) : Prop := w.cell? ⟨k, 0, none⟩ = some (.bool true) ∧ w.cell? ⟨k, 1, none⟩ = some (.int .i64 who) ∧ w.cell? ⟨k, 2, none⟩ = some (.int .i64 ver) ∧ w.cell? ⟨k, 3, none⟩ = some (.string mo) ∧ w.cell? ⟨k, 4, none⟩ = some (.string ro) ∧ w.cell? ⟨k, 5, none⟩ = some fv ∧ w.cell? ⟨g, o, none⟩ = some mv
/-- Events of a size that Replay is tried with. -/
def EvGood (e : EvD) : Prop := e.2.2.2.1.size ≤ 1000 ∧ e.2.2.2.2.1.size ≤ 1000 ∧ e.2.2.2.2.2.length ≤ 1000 ∧ ∀ x ∈ e.2.2.2.2.2, x.1.size ≤ 1000 ∧ x.2.1.length ≤ 300000
set_option maxRecDepth 100000 in
set_option maxHeartbeats 1000000 in
theorem replay_any (A : Option Addr) (c : Nat) (l : List EvD) (w : World) (hl : l.length ≤ 90) (hr : EvRow w A l) (hg : ∀ e ∈ l, EvGood e) :
    Calls Tryd.prog 6 #[.slice A l.length c] w (ReplayPost l w) := by
  have HR := Lib.hid hr
  have HG := Lib.hid hg
  have hmm := @run_makeMap Tryd.prog
  have HM0 := Lib.hid (fmap_new w)
  have HB0 := Lib.hid (below_one w (.map #[] 0))
  clear hr hg
  go_enter Tryd.func6, Tryd.ntmps6
  go_wp2_with fail
  have hown0 := World.ownsRow_lit (w.alloc (.map #[] 0)) (e := 38) (base := (w.alloc (.map #[] 0)).heap.size) (size := 1) #[.map (some w.heap.size)] 1 (Nat.le_refl _) (by unfold maxLen; omega) rfl
  have hb1 := below_one (w.alloc (.map #[] 0)) (.cells #[.map (some w.heap.size)] 38)
  have hMA : MapsAt ((w.alloc (.map #[] 0)).alloc (.cells #[.map (some w.heap.size)] 38)) w.heap.size (.slice (some ⟨w.heap.size + 1, 0, none⟩) 1 1) [[]] [w.heap.size] := by
    have hsz : (w.alloc (.map #[] 0)).heap.size = w.heap.size + 1 := by simp
    refine ⟨rfl, ?_, fun j h1 h2 => ?_⟩
    · rw [hsz] at hown0
      exact (OffRow.of hown0).mono (Nat.le_succ _)
    · obtain rfl : j = 0 := by simp at h1; omega
      exact HM0.out.below hb1
  have HMA := Lib.hid hMA
  have HB1 := Lib.hid (below_from HB0.out hb1)
  clear hown0 hb1 hMA
  go_loopw [4, 11] (fun ov i wr => ∃ (k : Nat) (Ms : List FM) (bs : List Nat), k ≤ l.length ∧ i = .int .i64 k ∧ MapsAt wr w.heap.size ov Ms bs ∧ 1 ≤ Ms.length ∧ Ms.length ≤ 1 + k ∧ (∀ M ∈ Ms, M.length ≤ 1000 * k) ∧ replayM [[]] 0 l = replayM Ms k (l.drop k) ∧ Below w.heap.size w wr) (fun _ i _ => l.length - (intOf i).toNat)
  case atStart => exact ⟨0, _, _, by omega, rfl, HMA.out, by simp, by simp, (fun M hM => by rw [List.mem_singleton.1 hM]; simp), rfl, HB1.out⟩
  case round =>
    obtain ⟨k, Ms, bs, hk, rfl, hma, h1, h2, hlen, hrep, hb⟩ := hrel
    obtain ⟨wk, rfl⟩ : ∃ W, W = wr := ⟨wr, rfl⟩
    obtain ⟨go, oo, co, rfl, hco, hcells⟩ := hma.row (by omega)
    have HMAk := Lib.hid hma
    have HB := Lib.hid hb
    have HREP := Lib.hid hrep
    have HLEN := Lib.hid hlen
    have hbs := hb.size
    by_cases hlt : k < l.length
    · obtain ⟨bb, off, A', c', rfl, x0, x1, x2, x3, x4, x5, x6, x7⟩ := (HR.out.below hb) k hlt
      obtain ⟨ev, hev⟩ : ∃ ev, ev = l[k] := ⟨_, rfl⟩
      have hge := HG.out ev (hev ▸ List.getElem_mem hlt)
      have hdr : l.drop k = ev :: l.drop (k + 1) := by rw [List.drop_eq_getElem_cons hlt, hev]
      rw [hdr] at hrep
      rw [← hev] at x0 x1 x2 x3 x4 x5 x6 x7
      clear hev hdr hma hb hlen HREP
      obtain ⟨pu, who, ver, mo, ro, fs⟩ := ev
      simp only at x0 x1 x2 x3 x4 x5 x6 x7
      have HREP := Lib.hid hrep
      have HGE := Lib.hid hge
      have HCELLS := Lib.hid hcells
      have hb0 := below_one wk (.cells #[.bool pu, .int .i64 who, .int .i64 ver, .string mo, .string ro, .slice A' fs.length c'] 28)
      have hnew := heap_alloc_new wk (.cells #[.bool pu, .int .i64 who, .int .i64 ver, .string mo, .string ro, .slice A' fs.length c'] 28)
      have HNEW := Lib.hid hnew
      have HMA0 := Lib.hid (HMAk.out.below hb0)
      have HBA := Lib.hid (below_from HB.out hb0)
      have HCR := Lib.hid (x7.below hb0)
      clear hrep hge hcells hb0 hnew x7
      cases pu with
      | true =>
        by_cases hv : ver = (Ms.length : Int)
        · have dv : (ver == (Ms.length : Int)) = true := by simpa using hv
          have HV := Lib.hid hv
          clear hv
          go_wp2_with fail
          generalize hW0 : wk.alloc (.cells #[.bool true, .int .i64 who, .int .i64 ver, .string mo, .string ro, .slice A' fs.length c'] 28) = W0 at *
          obtain ⟨n, hn⟩ : ∃ n, Ms.length = n + 1 := ⟨Ms.length - 1, by omega⟩
          have hbn : n < bs.length := by rw [HMA0.out.len]; omega
          have y0 : W0.cell? ⟨wk.heap.size, 0, none⟩ = some (.bool true) := by simp [World.cell?, HNEW.out]
          have y1 : W0.cell? ⟨wk.heap.size, 1, none⟩ = some (.int .i64 who) := by simp [World.cell?, HNEW.out]
          have y2 : W0.cell? ⟨wk.heap.size, 2, none⟩ = some (.int .i64 ver) := by simp [World.cell?, HNEW.out]
          have y3 : W0.cell? ⟨wk.heap.size, 3, none⟩ = some (.string mo) := by simp [World.cell?, HNEW.out]
          have y4 : W0.cell? ⟨wk.heap.size, 4, none⟩ = some (.string ro) := by simp [World.cell?, HNEW.out]
          have y5 : W0.cell? ⟨wk.heap.size, 5, none⟩ = some (.slice A' fs.length c') := by simp [World.cell?, HNEW.out]
          have hbw : Below wk.heap.size wk W0 := by rw [← hW0]; exact below_one wk _
          have yo : W0.cell? ⟨go, oo + n, none⟩ = some (.map (some bs[n])) := cell_below hbw (HCELLS.out n hbn)
          have hM : Ms[n].length ≤ 100000 := by
            have := HLEN.out Ms[n] (List.getElem_mem (by omega))
            have : 1000 * k ≤ 90000 := by omega
            omega
          have hbd : Below W0.heap.size W0 W0.drew := Below.drew (Below.refl _ _)
          have HAP := Lib.hid (apply_any bs[n] Ms[n] true who ver mo ro fs A' c' W0.drew ((HMA0.out.maps n hbn (by omega)).below hbd) hM HGE.out.2.2.1 (HCR.out.below hbd) (fun x hx => ⟨by have := (HGE.out.2.2.2 x hx).1; unfold maxLen; omega, (HGE.out.2.2.2 x hx).2⟩))
          have HBD := Lib.hid hbd
          obtain ⟨j0, hj0, hjz0, hjz1, hjz2⟩ := info_parts infoMap
          rw [hn]
          have hown0 : OffRow W0 w.heap.size 38 1 (.slice (some ⟨go, oo, none⟩) (n + 1) co) (n + 1) (bs.map fun b => .map (some b)) := by
            have := HMA0.out.own
            rw [hn] at this
            exact this
          have HOWN0 := Lib.hid hown0
          have hbsW : w.heap.size ≤ W0.heap.size := HBA.out.size
          have hpre : Hid (bs.length ≤ 91) := Lib.hid (by rw [HMA0.out.len]; omega)
          have HYO : Hid ((bs.map fun b => Value.map (some b))[n]? = some (.map (some bs[n]))) := Lib.hid (by simp [hbn])
          have hw1 : IntKind.i64.wrap (((n + 1 : Nat) : Int) - 1) = (n : Int) := by rw [IntWalk.i64_in _ (by omega)]; omega
          have hw2 : IntKind.i64.wrap ((n : Int) + 1 - 1) = (n : Int) := by rw [IntWalk.i64_in _ (by omega)]; omega
          have hw3 : IntKind.i64.wrap (n : Int) = (n : Int) := IntWalk.i64_in _ (by omega)
          have hge0 : (0 : Int) ≤ (n : Int) := by omega
          have hlt2 : (n : Int) < (n : Int) + 1 := by omega
          have hcd : ((0 : Int) ≤ (n : Int) ∧ (n : Int) < (n : Int) + 1) = True := by simp; omega
          have HS7 : Hid (∀ W, Below W0.heap.size W0 W → HeldE W wk.heap.size go (oo + n) who ver mo ro (.slice A' fs.length c') (.map (some bs[n]))) := Lib.hid (fun W hW => ⟨cell_below hW y0, cell_below hW y1, cell_below hW y2, cell_below hW y3, cell_below hW y4, cell_below hW y5, cell_below hW yo⟩)
          clear hW0 hM hbd dv hbw hown0
          go_region_held3 (fun w' => w'.cell? ⟨wk.heap.size, 0, none⟩ = some (.bool true) ∧ w'.cell? ⟨wk.heap.size, 1, none⟩ = some (.int .i64 who) ∧ w'.cell? ⟨wk.heap.size, 2, none⟩ = some (.int .i64 ver) ∧ w'.cell? ⟨wk.heap.size, 3, none⟩ = some (.string mo) ∧ w'.cell? ⟨wk.heap.size, 4, none⟩ = some (.string ro) ∧ w'.cell? ⟨wk.heap.size, 5, none⟩ = some (.slice A' fs.length c') ∧ w'.cell? ⟨go, oo + n, none⟩ = some (.map (some bs[n])))
            (first
              | exact s6
              | exact s7
              | exact s8
              | (go_split_ands
                 refine ⟨?_, ?_, ?_, ?_, ?_, ?_, ?_⟩ <;> first | assumption | go_keep))
            (first
              | (refine step_append_keeps _ rfl (.tmp 30) (.tmp 39) 30 rfl w.heap.size 38 j0 (.map none) 1 8 Tryd.underlying30 hj0 hjz0 hjz1 hjz2 rfl (by decide) (.slice (some ⟨go, oo, none⟩) (n + 1) co) (n + 1) (bs.map fun b => .map (some b)) (by rfl) HOWN7.out ⟨w6.heap.size, 0, none⟩ 1 1 [.map (some b2)] (by rfl) rfl (cell_one_new _ _ _) (fun u hu => by (simp at hu; subst hu; rfl)) (by unfold maxLen; omega) (by omega) hbase7 ?_
                 intro v8 w8 hown8 hg8 _ hkeep8
                 have hc8 := HOWN7.out.block HN7.out (by decide) hg8
                 have s8 : HeldE w8 wk.heap.size go (oo + n) who ver mo ro (.slice A' fs.length c') (.map (some bs[n])) := ⟨by simp [World.cell?, hc8], by simp [World.cell?, hc8], by simp [World.cell?, hc8], by simp [World.cell?, hc8], by simp [World.cell?, hc8], by simp [World.cell?, hc8], hkeep8 go oo co rfl n _ HYO.out⟩
                 have HOWN8 := Lib.hid hown8
                 have HG8 := Lib.hid hg8
                 clear hown8 hg8 hc8 hkeep8)
              | (go_at_call 10
                 refine HAP.out.mono ?_
                 rintro e w6 ⟨b2, rfl, hm6, hb26, hbl6⟩
                 have hb06 : Below W0.heap.size W0 w6 := Below.trans HBD.out hbl6
                 have hb67 := below_one w6 (.cells #[.map (some b2)] 38)
                 have s6 := HS7.out w6 hb06
                 have s7 := HS7.out (w6.alloc (.cells #[.map (some b2)] 38)) (hb06.trans (hb67.mono hb06.size))
                 have HOWN7 := Lib.hid ((HOWN0.out.stay hb06).stay hb67)
                 have hn6 := (hb06.block wk.heap.size (lt_of_block HNEW.out)).trans HNEW.out
                 have HN7 := Lib.hid ((hb67.block wk.heap.size (lt_of_block hn6)).trans hn6)
                 have hbase7 : w.heap.size ≤ (w6.alloc (.cells #[.map (some b2)] 38)).heap.size := Nat.le_trans hbsW (Nat.le_trans hb06.size hb67.size)
                 have HM6 := Lib.hid hm6
                 have HB06 := Lib.hid hb06
                 clear hm6 hb06 hb67 hbl6 hn6))
          all_goals
            have hb7 := below_one w6 (.cells #[.map (some b2)] 38)
            have hcarry : ∀ b M, FMapAt w6 b M → FMapAt w8 b M := fun b M hfm => by
              have h7 := hfm.below hb7
              obtain ⟨m, hm, _⟩ := id h7
              obtain ⟨es, ck, hmb⟩ := hm.isMap
              exact h7.grown HG8.out (HOWN7.out.ne hmb)
            have hlast : Ms.getLastD [] = Ms[n] := by
              rw [List.getLastD_eq_getLast?, List.getLast?_eq_getElem?]
              have e : Ms.length - 1 = n := by omega
              rw [e, List.getElem?_eq_getElem (by omega)]
              rfl
            have hma8 : MapsAt w8 w.heap.size v8 (Ms ++ [applyM Ms[n] fs]) (bs ++ [b2]) := by
              refine ⟨by simp [HMA0.out.len], ?_, fun j h1 h2 => ?_⟩
              · have h8 := HOWN8.out
                have e8 : (Ms ++ [applyM Ms[n] fs]).length = n + 1 + 1 := by rw [List.length_append, List.length_singleton]; omega
                rw [e8, List.map_append]
                exact h8
              · by_cases hj : j < bs.length
                · have hj2 : j < Ms.length := by rw [← HMA0.out.len]; exact hj
                  rw [List.getElem_append_left hj, List.getElem_append_left hj2]
                  exact hcarry _ _ ((HMA0.out.maps j hj hj2).below HB06.out)
                · have hjb : j = bs.length := by simp at h1; omega
                  have hjm : j = Ms.length := by rw [hjb, HMA0.out.len]
                  rw [List.getElem_append_right (by omega), List.getElem_append_right (by omega)]
                  simp only [List.getElem_singleton]
                  exact hcarry _ _ HM6.out
            have hrep8 : replayM [[]] 0 l = replayM (Ms ++ [applyM Ms[n] fs]) (k + 1) (l.drop (k + 1)) := by
              rw [HREP.out, replayM, if_pos (by simp [HV.out]), hlast]
            have hB8 : Below w.heap.size w w8 := (HBA.out.trans (HB06.out.mono hbsW)).trans (hb7.mono (Nat.le_trans hbsW HB06.out.size)) |>.grown HG8.out (Nat.le_trans hbsW (Nat.le_trans HB06.out.size hb7.size)) (fun j hj => (HOWN7.out.lt j hj).1)
            have hlen8 : ∀ M ∈ Ms ++ [applyM Ms[n] fs], M.length ≤ 1000 * (k + 1) := fun M hM => by
              rcases List.mem_append.1 hM with hM | hM
              · have := HLEN.out M hM; omega
              · rw [List.mem_singleton.1 hM]
                have h1 := applyM_len Ms[n] fs
                have h2 := HLEN.out Ms[n] (List.getElem_mem (by omega))
                have h3 := HGE.out.2.2.1
                simp only at h3
                omega
            have HMA8 := Lib.hid hma8
            have HREP8 := Lib.hid hrep8
            have HB8 := Lib.hid hB8
            have HLEN8 := Lib.hid hlen8
            clear hcarry hma8 hrep8 hB8 hlen8 hb7 hlast hcd hw1 hw2 hw3 s6 s7 s8
            go_wp2_with fail
            go_roundw
            case rel => exact ⟨k + 1, _, _, by omega, by go_num, HMA8.out, by simp, by simp; omega, HLEN8.out, HREP8.out, HB8.out⟩
            case measure => simp [intOf]; omega
        · have dv : (ver == (Ms.length : Int)) = false := by simpa using hv
          have HF : Hid (replayM [[]] 0 l = .error k) := Lib.hid (by rw [HREP.out, replayM, if_neg (by simp [hv]), if_neg (by simp)])
          go_wp2_with fail
          generalize hW0 : wk.alloc (.cells #[.bool true, .int .i64 who, .int .i64 ver, .string mo, .string ro, .slice A' fs.length c'] 28) = W0 at *
          have y0 : W0.cell? ⟨wk.heap.size, 0, none⟩ = some (.bool true) := by simp [World.cell?, HNEW.out]
          clear hW0
          go_quiet (fail)
          go_wp2_with fail
          go_ret2
          exact .inr ⟨k, _, HF.out, rfl, fault_new _ _ _, below_from (below_drewN HBA.out _) (below_one _ _)⟩
      | false =>
        by_cases hv0 : 0 ≤ ver
        · by_cases hv1 : ver < (Ms.length : Int)
          · obtain ⟨n, rfl⟩ : ∃ n : Nat, ver = (n : Int) := ⟨ver.toNat, by omega⟩
            have hn : n < Ms.length := by omega
            have hbn : n < bs.length := by rw [HMA0.out.len]; exact hn
            have hM : Ms[n].length ≤ 100000 := by
              have := HLEN.out Ms[n] (List.getElem_mem hn)
              have : 1000 * k ≤ 90000 := by omega
              omega
            have d0 : decide ((0 : Int) ≤ (n : Int)) = true := by simp
            have d1 : decide ((n : Int) < (Ms.length : Int)) = true := by simpa using hv1
            go_wp2_with fail
            have hbw : Below wk.heap.size wk (wk.alloc (.cells #[.bool false, .int .i64 who, .int .i64 n, .string mo, .string ro, .slice A' fs.length c'] 28)) := below_one wk _
            generalize hW0 : wk.alloc (.cells #[.bool false, .int .i64 who, .int .i64 n, .string mo, .string ro, .slice A' fs.length c'] 28) = W0 at *
            have y0 := cell_regrown (show W0.cell? ⟨wk.heap.size, 0, none⟩ = some (.bool false) by simp [World.cell?, HNEW.out])
            have y1 := cell_regrown (show W0.cell? ⟨wk.heap.size, 1, none⟩ = some (.int .i64 who) by simp [World.cell?, HNEW.out])
            have y2 := cell_regrown (show W0.cell? ⟨wk.heap.size, 2, none⟩ = some (.int .i64 n) by simp [World.cell?, HNEW.out])
            have y3 := cell_regrown (show W0.cell? ⟨wk.heap.size, 3, none⟩ = some (.string mo) by simp [World.cell?, HNEW.out])
            have y4 := cell_regrown (show W0.cell? ⟨wk.heap.size, 4, none⟩ = some (.string ro) by simp [World.cell?, HNEW.out])
            have y5 := cell_regrown (show W0.cell? ⟨wk.heap.size, 5, none⟩ = some (.slice A' fs.length c') by simp [World.cell?, HNEW.out])
            have yo := cell_regrown (cell_below hbw (HCELLS.out n hbn))
            have hcd : ((0 : Int) ≤ (n : Int) ∧ (n : Int) < (Ms.length : Int)) = True := by simp; omega
            have cM := fun d os => Calls.regrown_of (has_any bs[n] Ms[n] false who n mo ro fs A' c' (Sort.grow (redrawn W0 d) os) ((HMA0.out.maps n hbn hn).below (below_regrown W0 d os)) hM HGE.out.2.2.1 (HCR.out.below (below_regrown W0 d os)) HGE.out.2.2.2 HGE.out.1 HGE.out.2.1)
            obtain ⟨hh, hhe⟩ : ∃ hh, hh = hasM Ms[n] mo ro fs := ⟨_, rfl⟩
            rw [← hhe] at cM
            have HRP : Hid (replayM [[]] 0 l = if hh then replayM Ms (k + 1) (l.drop (k + 1)) else .error k) := Lib.hid (by
              have hg : Ms.getD n [] = Ms[n] := by simp [List.getD, hn]
              rw [HREP.out, replayM, if_neg (by simp), hhe]
              simp only [Int.toNat_natCast, hg]
              congr 1
              simp [hn])
            clear hW0 hbw hhe hM hv1
            refine wp_region_quiet_below (by kernel_rfl) (by kernel_rfl) ?_
            repeat (quiet_step (exact cM _ _))
            refine wpQuiet_nil ?_
            intro _ hw'
            obtain ⟨⟨dq, osq⟩, hw''⟩ := hw'
            subst hw''
            have hbq := below_regrown W0 dq osq
            generalize Sort.grow (redrawn W0 dq) osq = W1 at *
            have HB1 := Lib.hid (below_from HBA.out hbq)
            have HMA1 := Lib.hid (HMA0.out.below hbq)
            cases hh with
            | true =>
              clear y0 y1 y2 y3 y4 y5 yo cM hbq
              go_wp2_with fail
              go_roundw
              case rel => exact ⟨k + 1, _, _, by omega, by go_num, HMA1.out, by omega, by omega, fun M hM => by have := HLEN.out M hM; omega, HRP.out, HB1.out⟩
              case measure => simp [intOf]; omega
            | false =>
              clear y0 y1 y2 y3 y4 y5 yo cM hbq
              go_wp2_with fail
              go_ret2
              exact .inr ⟨k, _, HRP.out, rfl, fault_new _ _ _, below_from HB1.out (below_one _ _)⟩
          · have d1 : decide (ver < (Ms.length : Int)) = false := by simpa using hv1
            have d0 : decide ((0 : Int) ≤ ver) = true := by simpa using hv0
            have HF : Hid (replayM [[]] 0 l = .error k) := Lib.hid (by rw [HREP.out, replayM, if_neg (by simp), if_neg (by simp [hv1])])
            go_wp2_with fail
            generalize hW0 : wk.alloc (.cells #[.bool false, .int .i64 who, .int .i64 ver, .string mo, .string ro, .slice A' fs.length c'] 28) = W0 at *
            have y0 : W0.cell? ⟨wk.heap.size, 0, none⟩ = some (.bool false) := by simp [World.cell?, HNEW.out]
            have y2 : W0.cell? ⟨wk.heap.size, 2, none⟩ = some (.int .i64 ver) := by simp [World.cell?, HNEW.out]
            clear hW0
            go_quiet (fail)
            go_wp2_with fail
            go_ret2
            exact .inr ⟨k, _, HF.out, rfl, fault_new _ _ _, below_from (below_drewN HBA.out _) (below_one _ _)⟩
        · have d0 : decide ((0 : Int) ≤ ver) = false := by simpa using hv0
          have HF : Hid (replayM [[]] 0 l = .error k) := Lib.hid (by rw [HREP.out, replayM, if_neg (by simp), if_neg (by simp [hv0])])
          go_wp2_with fail
          generalize hW0 : wk.alloc (.cells #[.bool false, .int .i64 who, .int .i64 ver, .string mo, .string ro, .slice A' fs.length c'] 28) = W0 at *
          have y0 : W0.cell? ⟨wk.heap.size, 0, none⟩ = some (.bool false) := by simp [World.cell?, HNEW.out]
          have y2 : W0.cell? ⟨wk.heap.size, 2, none⟩ = some (.int .i64 ver) := by simp [World.cell?, HNEW.out]
          clear hW0
          go_quiet (fail)
          go_wp2_with fail
          go_ret2
          exact .inr ⟨k, _, HF.out, rfl, fault_new _ _ _, below_from (below_drewN HBA.out _) (below_one _ _)⟩
    · obtain rfl : k = l.length := by omega
      have HF : Hid (replayM [[]] 0 l = .ok Ms) := Lib.hid (by rw [HREP.out, List.drop_length]; rfl)
      go_wp2_with fail
      go_ret2
      exact .inl ⟨Ms, bs, _, _, HF.out, rfl, HMAk.out, HB.out⟩
end Go.Proofs.YtkplkienbgoofaaDoor
