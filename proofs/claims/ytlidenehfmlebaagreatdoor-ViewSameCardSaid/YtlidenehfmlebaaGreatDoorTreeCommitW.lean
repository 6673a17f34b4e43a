/-
  (*Tree).Commit, walked; New.
-/
import Derived.Test.YtlidenehfmlebaaGreatDoorTreeCommit
import Derived.Deep.RegionHeld3
import Derived.Deep.DrawnRows
import Derived.Deep.AppendLies
set_option linter.unusedVariables false
set_option linter.unusedSimpArgs false
namespace Go.Proofs.YtlidenehfmlebaaGreatDoor
open Go.RowKit Go.Maps Go.WideMaps Go.WideAt
open Go.Sort (grow)
open Go.Proofs.YtlidenehfmlebaaGreatDoorW.PrintWords (Kd ReadsRow)
attribute [local go_sem ↓] Go.wp_at_zero Go.wp_at_succ
theorem errV_iface {w : World} {er : Value} {g : GErr} (h : ErrV w er g) (hn : g ≠ .nil) : ∃ t v, er = .iface t v := by
  cases g with
  | nil => exact absurd rfl hn
  | errno e => exact ⟨_, _, h⟩
  | fault p e => obtain ⟨b, rfl, _⟩ := h; exact ⟨_, _, rfl⟩
  | joined p e => exact h.elim
theorem chkGo_small {T : ByteArray → Bool} : ∀ {l : List ChgD} {i : Nat} {seen after : List ByteArray} {n : Nat} {af : List ByteArray} {m : Nat}, chkGo T i seen after n l = .ok af m → ∀ c ∈ l, checkB c.1 = none
  | c :: r, i, seen, after, n, af, m, h, x, hx => by
    rw [chkGo] at h
    split at h
    · cases h
    · rename_i h1
      split at h
      · cases h
      · split at h
        · cases h
        · split at h
          · cases h
          · rcases List.mem_cons.1 hx with rfl | hx
            · cases hc : checkB x.1 with
              | none => rfl
              | some q => simp [hc] at h1
            · exact chkGo_small h x hx
theorem chkT_small {now : Nat} {F : List FileS} {l : List ChgD} (h : chkT now F l = .nil) : ∀ c ∈ l, c.1.size ≤ 64 := by
  unfold chkT at h
  cases hc : chkGo (thereB F now) 0 [] [] 0 l with
  | bad i cd => rw [hc] at h; cases h
  | ok af m =>
    intro c hcm
    have h1 := chkGo_small hc c hcm
    unfold checkB at h1
    by_cases h64 : c.1.size ≤ 64
    · exact h64
    · rw [if_pos (by simp; right; omega)] at h1; cases h1
def CommitPost (g b now : Nat) (l : List ChgD) (F : List FileS) (base : Nat) (w : World) (e : Ending) (w' : World) : Prop :=
  (chkT now F l ≠ .nil ∧ ∃ t v, e = .returned (.tuple #[.int .i64 0, .iface t v]) ∧ ErrV w' (.iface t v) (chkT now F l) ∧ TreeAt w' base g b now F ∧ Below w.heap.size w w') ∨
  (chkT now F l = .nil ∧ ∃ F', e = .returned (.tuple #[.int .i64 ((now : Int) + 1), .nilIface]) ∧ Puts (now + 1) w.heap.size F l F' ∧ TreeAt w' base g b (now + 1) F' ∧ Below base w w' ∧ TFrame b w w')
/-- The tree's number is written. -/
theorem TreeAt.tick {w : World} {base g b now : Nat} {F : List FileS} (h : TreeAt w base g b now F) (m : Nat) (hbs : base ≤ w.heap.size) :
    TreeAt (w.setCell ⟨g, 0, none⟩ (.int .i64 m)) base g b m F ∧ Below base w (w.setCell ⟨g, 0, none⟩ (.int .i64 m)) ∧ TFrame b w (w.setCell ⟨g, 0, none⟩ (.int .i64 m)) := by
  have hother : ∀ j, j ≠ g → (w.setCell ⟨g, 0, none⟩ (.int .i64 m)).heap[j]? = w.heap[j]? := fun j hj => Below.heap_setCell w ⟨g, 0, none⟩ _ j hj
  have hset : (w.setCell ⟨g, 0, none⟩ (.int .i64 m)).heap[g]? = some (Obj.cells #[.int .i64 m, .map (some b)] 106 (0, 0)) := by
    rw [heap_setCell_same w g 0 _ _ _ h.cell]; rfl
  have hgb : b ≠ g := fun e => by
    obtain ⟨es, ck, hmb⟩ := h.map.isMap
    have := h.cell
    rw [← e, hmb] at this
    cases this
  have hown : ∀ {t : TypeId} {size n : Nat} {v : Value} {xs : List Value}, w.ownsRow base t size v n xs → t ≠ 106 → (w.setCell ⟨g, 0, none⟩ (.int .i64 m)).ownsRow base t size v n xs := fun {t size n v xs} ho ht => by
    obtain ⟨h1, h2⟩ := ho
    refine ⟨h1, ?_⟩
    rcases h2 with h2 | ⟨k, cap, cur, rfl, hbb, hh, r⟩
    · exact .inl h2
    · refine .inr ⟨k, cap, cur, rfl, hbb, (hother k (fun e => ?_)).trans hh, r⟩
      rw [e, h.cell] at hh
      injection hh with hh
      injection hh with _ e2
      exact ht e2.symm
  refine ⟨⟨hset, h.hg, h.hb, h.map.block (hother b hgb), h.once, h.apart, fun f hf => ?_⟩, ⟨rfl, rfl, rfl, by simp, fun j hj => hother j (by have := h.hg; omega)⟩, ⟨by simp, fun k hk hb ht => hother k (fun e => by subst e; exact (ht _ _ h.cell).1 rfl)⟩⟩
  have hfa := h.files f hf
  exact ⟨hfa.1.kept (row := some g) ⟨rfl, rfl, rfl, by simp, fun k hk hne => hother k (fun e => hne (by rw [e]))⟩ (.inr (fun e => by
    obtain ⟨cur, hc⟩ := hfa.1.blk g e
    rw [h.cell] at hc
    injection hc with hc
    injection hc with _ e2
    exact absurd e2 (by decide))), hfa.2.1, fun r hr => ⟨hown (hfa.2.2.1 r hr).1 (by decide), (hfa.2.2.1 r hr).2⟩, hfa.2.2.2⟩
theorem src_three (w : World) (a b c : Value) (t : TypeId) : ∀ j u, ([a, b, c] : List Value)[j]? = some u → (w.alloc (.cells #[a, b, c] t)).cell? ((⟨w.heap.size, 0, none⟩ : Addr).add j) = some u := by
  intro j u hj
  rw [Addr.add_lit, World.cell?_alloc_at _ _ _ _ rfl]
  match j, hj with
  | 0, hj => simpa using hj
  | 1, hj => simpa using hj
  | 2, hj => simpa using hj
theorem put_rows {F : List FileS} {p : ByteArray} {v : Value} {r : SRow} {m : Nat} (h : ∀ f ∈ F, f.rows.length ≤ m) : ∀ f ∈ putS F p v r, f.rows.length ≤ m + 1 := fun f hf => by
  rcases put_mem hf with ⟨h1, _⟩ | rfl | ⟨f0, hf0, _, rfl⟩
  · have := h f h1; omega
  · show (_ ++ [r]).length ≤ _
    rw [List.length_append, List.length_singleton]
    cases hfo : fileOf F p with
    | none => simp
    | some f0 =>
      have := h f0 (file_mem hfo).1
      simp only
      omega
  · have := h f0 hf0
    simp
    omega
theorem rowsOf_le {F : List FileS} {p : ByteArray} {m : Nat} (h : ∀ f ∈ F, f.rows.length ≤ m) : (rowsOf F p).length ≤ m := by
  unfold rowsOf
  cases hfo : fileOf F p with
  | none => simp
  | some f0 => exact h f0 (file_mem hfo).1
theorem mapN_le {F : List FileS} {m : Nat} (h : ∀ f ∈ F, f.rows.length ≤ m) : mapN F ≤ F.length * m := by
  induction F with
  | nil => simp [mapN]
  | cons a r ih =>
    have h1 := h a (by simp)
    have h2 := ih (fun f hf => h f (by simp [hf]))
    simp only [mapN, List.map_cons, List.sum_cons, List.length_cons] at h2 ⊢
    rw [Nat.succ_mul]
    omega
theorem one_own {w : World} {base n : Nat} {e : TypeId} {size : Nat} {v : Value} {xs : List Value} (h : w.ownsRow base e size v n xs) : v.oneCell' = true := by
  rcases h.2 with ⟨rfl, _⟩ | ⟨g, cap, cur, rfl, _⟩
  · rfl
  · rfl
theorem one_three {a : Int} {dv : Value} {gn : Bool} (h : dv.oneCell' = true) {u : Value} (hu : u ∈ [.int .i64 a, dv, .bool gn]) : u.oneCell' = true := by
  simp at hu
  rcases hu with rfl | rfl | rfl
  · rfl
  · exact h
  · rfl
/-- What Commit's drawn statement reads. -/
theorem held_of {w : World} {cb g b : Nat} {p dv gn n1 : Value} (hc : w.heap[cb]? = some (Obj.cells #[p, dv, gn] 66 (0, 0))) (hg : w.heap[g]? = some (Obj.cells #[n1, .map (some b)] 106 (0, 0))) :
    w.cell? ⟨cb, 0, none⟩ = some p ∧ w.cell? ⟨cb, 1, none⟩ = some dv ∧ w.cell? ⟨cb, 2, none⟩ = some gn ∧ w.cell? ⟨g, 0, none⟩ = some n1 ∧ w.cell? ⟨g, 1, none⟩ = some (.map (some b)) := by
  refine ⟨?_, ?_, ?_, ?_, ?_⟩ <;> simp [World.cell?, hc, hg]
theorem heap_mapped {w w' : World} {b k : Nat} {cs : Array Value} {t : TypeId} {fr : Nat × Nat} {es : Array MapEntry} {ck : Nat} (hm : w.heap[b]? = some (.map es ck)) (hg : w.grownBy w' (some b)) (h : w.heap[k]? = some (.cells cs t fr)) : w'.heap[k]? = some (.cells cs t fr) :=
  (hg.block k (lt_of_block h) (fun e => by rw [Option.some.inj e, hm] at h; cases h)).trans h
theorem own_slice {w : World} {base n : Nat} {e : TypeId} {size : Nat} {v : Value} {xs : List Value} (h : w.ownsRow base e size v n xs) : ∃ A c, v = .slice A n c := by
  rcases h.2 with ⟨rfl, rfl⟩ | ⟨g, cap, cur, rfl, _⟩
  · exact ⟨none, 0, rfl⟩
  · exact ⟨_, _, rfl⟩
theorem commit_next {w W0 w6 w4 w5 : World} {o : Obj} {base g b n1 m : Nat} {F Fk : List FileS} {l1 : List ChgD} {p : ByteArray} {d : List Int} {gn : Bool} {Ad : Option Addr} {cd : Nat} {v4 oldv : Value} {x4 : List Value}
    (HT0 : TreeAt W0 base g b n1 Fk) (hbs0 : base ≤ W0.heap.size) (HB0 : Below base w W0) (HF0 : TFrame b w W0) (HB06 : Below W0.heap.size W0 w6) (hod : w6.ownsRow W0.heap.size 5 1 (.slice Ad d.length cd) d.length (u8V d)) (hdw : ∀ x ∈ d, (Lit.int .u8 x).wf = true) (hdl : d.length ≤ 300000) (hps : p.size ≤ 64) (hold : (lookF Fk (keyS p)).getD (.slice none 0 0) = oldv)
    (how : OffRow (w6.alloc o) base 157 3 oldv (rowsOf Fk p).length ((rowsOf Fk p).flatMap SRow.cells)) (h4 : OffRow w4 base 157 3 v4 ((rowsOf Fk p).length + 1) ((rowsOf Fk p).flatMap SRow.cells ++ x4)) (hx4 : x4 = SRow.cells ⟨n1, .slice Ad d.length cd, d, gn⟩)
    (hg4 : (w6.alloc o).grownBy w4 oldv.ownBlock) (hloc : v4.ownBlock = oldv.ownBlock ∨ v4.ownBlock = some (w6.alloc o).heap.size) (hm5 : MapAs w5 Tryz.prog 9 b (mapN Fk + 1) (upd (lookF Fk) (keyS p) v4)) (hg5 : w4.grownBy w5 (some b)) (hpu : Puts n1 w.heap.size F l1 Fk) (hrk : ∀ f ∈ Fk, f.rows.length ≤ m) :
    Puts n1 w.heap.size F (l1 ++ [(p, d, gn)]) (putS Fk p v4 ⟨n1, .slice Ad d.length cd, d, gn⟩) ∧ TreeAt w5 base g b n1 (putS Fk p v4 ⟨n1, .slice Ad d.length cd, d, gn⟩) ∧ Below base w w5 ∧ TFrame b w w5 ∧ (∀ f ∈ putS Fk p v4 ⟨n1, .slice Ad d.length cd, d, gn⟩, f.rows.length ≤ m + 1) ∧ mapN (putS Fk p v4 ⟨n1, .slice Ad d.length cd, d, gn⟩) = mapN Fk + 1 := by
  subst hx4
  have hb7 := below_one w6 o
  have ht7 := (HT0.below HB06).below hb7
  have hs6 := HB06.size
  have hs7 := hb7.size
  have hbw := HB0.size
  have hd7 : DataAt (w6.alloc o) base ⟨n1, .slice Ad d.length cd, d, gn⟩ := ⟨own_mono (own_stay hod hb7) hbs0, hdw, hdl⟩
  have hB7 : Below base w (w6.alloc o) := (HB0.trans (HB06.mono hbs0)).trans (hb7.mono (by omega))
  refine ⟨Puts.one (p, d, gn) v4 _ hpu (fun k hk => Nat.le_trans hbw (hod.lt k hk).1), ht7.put hold how h4 hg4 hloc hd7 hps hm5 hg5, ?_, ?_, put_rows hrk, mapN_put Fk HT0.once p v4 _⟩
  · have hB4 : Below base w w4 := ⟨hg4.os.trans hB7.os, hg4.tape.trans hB7.tape, hg4.output.trans hB7.output, Nat.le_trans hB7.size hg4.size, fun j hj => by
      refine (hg4.block j (by omega) (fun e => ?_)).trans (hB7.block j hj)
      have := (how.lt j e.symm).1
      omega⟩
    exact ⟨hg5.os.trans hB4.os, hg5.tape.trans hB4.tape, hg5.output.trans hB4.output, Nat.le_trans hB4.size hg5.size, fun j hj => by
      refine (hg5.block j (by have := hg4.size; omega) (fun e => ?_)).trans (hB4.block j hj)
      have := HT0.hb
      have := Option.some.inj e
      omega⟩
  · exact ((((HF0.trans (TFrame.of_below HB06)).trans (TFrame.of_below hb7)).trans (TFrame.of_row how hg4)).trans (TFrame.of_map hg5))
theorem infoState : (Tryz.prog.info? 157).map (fun i => (i.zero, i.size, i.bytes)) = some (some (.agg #[.int .i64 0, .slice none 0 0, .bool false]), 3, 40) := by kernel_rfl
set_option maxRecDepth 100000 in
set_option maxHeartbeats 8000000 in
theorem commit_any (g b now : Nat) (A : Option Addr) (c : Nat) (l : List ChgD) (F : List FileS) (w : World) {base : Nat} (hl : l.length ≤ 1000) (hlr : ∀ W, Below base w W → TFrame b w W → ChgRow W A l) (hgood : ∀ x ∈ l, GoodC x) (hr : ∀ f ∈ F, f.rows.length ≤ 90000) (hF : F.length ≤ 90000) (hnow : now ≤ 1048576) (ht : TreeAt w base g b now F) (hbase : base ≤ w.heap.size) (hg : EnvM w) :
    Calls Tryz.prog 45 #[.pointer (some ⟨g, 0, none⟩), .slice A l.length c] w (CommitPost g b now l F base w) := by
  have HCK := Lib.hid (check_tree g b now A c l F w hl (hlr w (Below.refl _ _) (TFrame.refl _ _)) hgood (fun f hf => Nat.le_trans (hr f hf) (by omega)) (by omega) ht hg)
  have HT := Lib.hid ht
  have HLR := Lib.hid hlr
  have HGD := Lib.hid hgood
  have HRR := Lib.hid hr
  clear ht hlr hgood hr
  go_enter Tryz.func45, Tryz.ntmps45
  go_wp2_with fail
  refine HCK.out.mono ?_
  rintro e w2 ⟨er, rfl, hve, hb2⟩
  by_cases hch : chkT now F l = .nil
  · rw [hch] at hve
    obtain rfl : er = .nilIface := hve
    have HCH := Lib.hid hch
    have HSM := Lib.hid (chkT_small hch)
    obtain ⟨tc0, tc1⟩ := tree_cells (HT.out.below hb2)
    have tf0 : w2.frozen? ⟨g, 0, none⟩ = false := frozen_of_row w2 g 0 _ _ (HT.out.below hb2).cell
    have hbz2 : base ≤ w2.heap.size := Nat.le_trans hbase hb2.size
    obtain ⟨ht3, hb3, hf3⟩ := (HT.out.below hb2).tick (now + 1) hbz2
    have HT3 := Lib.hid ht3
    have HB3 := Lib.hid ((hb2.mono hbase).trans hb3)
    have HF3 := Lib.hid ((TFrame.of_below hb2).trans hf3)
    have HB2 := Lib.hid hb2
    have e1 : ((now + 1 : Nat) : Int) = (now : Int) + 1 := by omega
    rw [e1] at ht3 hb3 hf3
    clear hch ht3 hb3 hf3
    have hmN : mapN F ≤ 8100000000 := Nat.le_trans (mapN_le HRR.out) (by omega)
    obtain ⟨i0, hi0, hz0, hz1, hz2⟩ := info_parts infoState
    go_wp2_with fail
    obtain ⟨W3, hW3⟩ : ∃ W3, W3 = w2.setCell ⟨g, 0, none⟩ (.int .i64 ((now : Int) + 1)) := ⟨_, rfl⟩
    have e1' : w2.setCell ⟨g, 0, none⟩ (.int .i64 ((now + 1 : Nat) : Int)) = W3 := by rw [e1, hW3]
    rw [e1'] at HT3 HB3 HF3
    rw [← hW3]
    clear e1' hW3 tf0 tc0 tc1
    go_loopw [24] (fun i wr => ∃ (k : Nat) (Fk : List FileS), k ≤ l.length ∧ i = .int .i64 k ∧ Puts (now + 1) w.heap.size F (l.take k) Fk ∧ TreeAt wr base g b (now + 1) Fk ∧ Below base w wr ∧ TFrame b w wr ∧ (∀ f ∈ Fk, f.rows.length ≤ 90000 + k) ∧ mapN Fk = mapN F + k) (fun i _ => l.length - (intOf i).toNat)
    case atStart => exact ⟨0, F, by omega, rfl, Puts.none F, HT3.out, HB3.out, HF3.out, fun f hf => HRR.out f hf, by omega⟩
    case round =>
      obtain ⟨k, Fk, hk, rfl, hpu, htk, hbk, hfk, hrk, hmk⟩ := hrel
      have HPU := Lib.hid hpu
      have HTK := Lib.hid htk
      have HBK := Lib.hid hbk
      have HFK := Lib.hid hfk
      have HRK := Lib.hid hrk
      have hbsk : base ≤ wr.heap.size := Nat.le_trans hbase hbk.size
      clear hpu htk hbk hfk hrk
      by_cases hlt : k < l.length
      · obtain ⟨bb, off, A1, c1, rfl, x1, x2, x3, x4, x5, x6⟩ := HLR.out wr HBK.out HFK.out k hlt
        obtain ⟨ch, hch⟩ : ∃ ch, ch = l[k] := ⟨_, rfl⟩
        have hgc := HGD.out ch (hch ▸ List.getElem_mem hlt)
        have hps := HSM.out ch (hch ▸ List.getElem_mem hlt)
        have htake : l.take (k + 1) = l.take k ++ [ch] := by rw [List.take_succ_eq_append_getElem hlt, hch]
        rw [← hch] at x1 x2 x3 x4 x5 x6
        obtain ⟨p, d, gn⟩ := ch
        obtain ⟨_, hdw, hdl⟩ := hgc
        simp only at x1 x2 x3 x4 x5 x6 hps hdw hdl
        have hbo := below_one wr (.cells #[.string p, .slice A1 d.length c1, .bool gn] 66)
        have HT0 := Lib.hid (HTK.out.below hbo)
        have HBR0 := Lib.hid (x5.below hbo)
        have HX6 := Lib.hid x6
        have HDW := Lib.hid hdw
        have HTAKE := Lib.hid htake
        have HB0 := Lib.hid (HBK.out.trans (hbo.mono hbsk))
        have HF0 := Lib.hid (HFK.out.trans (TFrame.of_below hbo))
        have y1 : (wr.alloc (.cells #[.string p, .slice A1 d.length c1, .bool gn] 66)).cell? ⟨wr.heap.size, 0, none⟩ = some (.string p) := by simp
        have y2 : (wr.alloc (.cells #[.string p, .slice A1 d.length c1, .bool gn] 66)).cell? ⟨wr.heap.size, 1, none⟩ = some (.slice A1 d.length c1) := by simp
        have y3 : (wr.alloc (.cells #[.string p, .slice A1 d.length c1, .bool gn] 66)).cell? ⟨wr.heap.size, 2, none⟩ = some (.bool gn) := by simp
        clear x5 x6 hch hdw htake hbo
        go_wp2_with fail
        generalize hW0 : wr.alloc (.cells #[.string p, .slice A1 d.length c1, .bool gn] 66) = W0 at *
        obtain ⟨cb, hcb⟩ : ∃ cb, cb = wr.heap.size := ⟨_, rfl⟩
        rw [← hcb] at y1 y2 y3 ⊢
        have hbs0 : base ≤ W0.heap.size := Nat.le_trans hbase HB0.out.size
        have hpm : p.size ≤ maxLen := by unfold maxLen; omega
        obtain ⟨tc0, tc1⟩ := tree_cells HT0.out
        rw [e1] at tc0
        obtain ⟨oldv, hold, hown⟩ := HT0.out.rows p
        have hkey := keyOf_string_mk (P := Tryz.prog) Tryz.underlying9 hpm
        have hlook0 : (Instr.lookup 104 (.map (some b)) (.string p) false).run Tryz.prog W0.drew = .ok oldv W0.drew := by
          have := (HT0.out.below (Below.drew (Below.refl _ _))).map.look strKeyed Tryz.underlying104 (zeroStates W0.drew) (key := .string p) hkey
          rw [this]
          exact congrArg (fun v => Result.ok v W0.drew) hold
        have hc0 : W0.heap[cb]? = some (Obj.cells #[.string p, .slice A1 d.length c1, .bool gn] 66 (0, 0)) := by
          rw [← hW0, hcb]
          exact heap_alloc_new wr _
        have hg0 := HT0.out.cell
        rw [e1] at hg0
        have HOLD := Lib.hid hold
        have HOWN := Lib.hid hown
        have HCL := Lib.hid (clone_any A1 c1 d W0.drew hdl HX6.out (HBR0.out.below (Below.drew (Below.refl _ _))))
        have hrows := rowsOf_le (p := p) HRK.out
        have HC0 := Lib.hid hc0
        have HG0 := Lib.hid hg0
        clear hold hown hW0 hcb hc0 hg0
        go_region_held3 (fun w' => w'.cell? ⟨cb, 0, none⟩ = some (.string p) ∧ w'.cell? ⟨cb, 1, none⟩ = some (.slice A1 d.length c1) ∧ w'.cell? ⟨cb, 2, none⟩ = some (.bool gn) ∧ w'.cell? ⟨g, 0, none⟩ = some (.int .i64 ((now : Int) + 1)) ∧ w'.cell? ⟨g, 1, none⟩ = some (.map (some b)))
          (first
            | exact s6
            | exact s7
            | exact s4
            | exact s5
            | (go_split_ands
               refine ⟨?_, ?_, ?_, ?_, ?_⟩ <;> first | assumption | go_keep))
          (first
            | (refine step_append_off _ rfl (.tmp 40) (.tmp 51) 107 rfl base 157 i0 (.agg #[.int .i64 0, .slice none 0 0, .bool false]) 3 40 Tryz.underlying107 hi0 hz0 hz1 hz2 rfl (by decide) oldv (rowsOf Fk p).length ((rowsOf Fk p).flatMap SRow.cells) (by rfl) HOW6.out ⟨w6.heap.size, 0, none⟩ 1 1 [.int .i64 ((now : Int) + 1), .slice Ad d.length cd, .bool gn] (by rfl) (by rfl) (src_three w6 _ _ _ _) (fun u hu => one_three hdv1 hu) (by unfold maxLen; omega) (by omega) (by simp; omega) ?_
               intro v4 w4 hown4 hg4 hloc4
               have ht7 := (HT0.out.below HB06.out).below (below_one w6 (.cells #[.int .i64 ((now : Int) + 1), .slice Ad d.length cd, .bool gn] 157))
               obtain ⟨es6, ck6, hmb6⟩ := ht7.map.isMap
               have hm4 := ht7.map.grown hg4 (HOW6.out.ne hmb6)
               have hc4 := HOW6.out.block HC7.out (by decide) hg4
               have hg4' := HOW6.out.block HG7.out (by decide) hg4
               have s4 := held_of hc4 hg4'
               obtain ⟨es4, ck4, hmb4⟩ := hm4.isMap
               obtain ⟨w5, hrun5, hm5, hg5⟩ := hm4.store strKeyed Tryz.underlying104 (by unfold maxLen; omega) (key := .string p) v4 hkey
               have s5 := held_of (heap_mapped hmb4 hg5 hc4) (heap_mapped hmb4 hg5 hg4')
               have HOWN4 := Lib.hid hown4
               have HG4 := Lib.hid hg4
               have HLOC4 := Lib.hid hloc4
               have HM5 := Lib.hid hm5
               have HG5 := Lib.hid hg5
               clear ht7 hm4 hmb6 hc4 hg4' hmb4 hown4 hg4 hloc4 hm5 hg5)
            | (go_at_call 67
               refine HCL.out.mono ?_
               rintro e w6 ⟨dv0, rfl, hod, hb6⟩
               obtain ⟨Ad, cd, rfl⟩ := own_slice hod
               have hb06 : Below W0.heap.size W0 w6 := Below.trans (Below.drew (Below.refl _ _)) hb6
               have HOD := Lib.hid hod
               have HB06 := Lib.hid hb06
               have hb67 := below_one w6 (.cells #[.int .i64 ((now : Int) + 1), .slice Ad d.length cd, .bool gn] 157)
               have hc6 := (hb06.block cb (lt_of_block HC0.out)).trans HC0.out
               have hg6 := (hb06.block g (lt_of_block HG0.out)).trans HG0.out
               have hc7 := (hb67.block cb (lt_of_block hc6)).trans hc6
               have hg7 := (hb67.block g (lt_of_block hg6)).trans hg6
               have s6 := held_of hc6 hg6
               have s7 := held_of hc7 hg7
               have HC7 := Lib.hid hc7
               have HG7 := Lib.hid hg7
               have hlook6 : (Instr.lookup 104 (.map (some b)) (.string p) false).run Tryz.prog w6 = .ok oldv w6 := by
                 rw [(HT0.out.below hb06).map.look strKeyed Tryz.underlying104 (zeroStates w6) (key := .string p) hkey]
                 exact congrArg (fun v => Result.ok v w6) HOLD.out
               have hlook7 : (Instr.lookup 104 (.map (some b)) (.string p) false).run Tryz.prog (w6.alloc (.cells #[.int .i64 ((now : Int) + 1), .slice Ad d.length cd, .bool gn] 157)) = .ok oldv (w6.alloc (.cells #[.int .i64 ((now : Int) + 1), .slice Ad d.length cd, .bool gn] 157)) := by
                 rw [((HT0.out.below hb06).below hb67).map.look strKeyed Tryz.underlying104 (zeroStates _) (key := .string p) hkey]
                 exact congrArg (fun v => Result.ok v (w6.alloc (.cells #[.int .i64 ((now : Int) + 1), .slice Ad d.length cd, .bool gn] 157))) HOLD.out
               have HOW6 : Hid (OffRow (w6.alloc (.cells #[.int .i64 ((now : Int) + 1), .slice Ad d.length cd, .bool gn] 157)) base 157 3 oldv (rowsOf Fk p).length ((rowsOf Fk p).flatMap SRow.cells)) := (HOWN.out.stay hb06).stay hb67
               have hdv1 : (Value.slice Ad d.length cd).oneCell' = true := one_own hod
               have hbs6 := hb06.size
               clear hod hb06 hb6 hb67 hc6 hg6 hc7 hg7))
        all_goals
          obtain ⟨z1, z2, z3, z4, z5, z6⟩ := commit_next (n1 := now + 1) (gn := gn) (p := p) HT0.out hbs0 HB0.out HF0.out HB06.out HOD.out HDW.out hdl hps HOLD.out HOW6.out HOWN4.out (by simp [SRow.cells]) HG4.out HLOC4.out HM5.out HG5.out HPU.out HRK.out
          rw [← HTAKE.out] at z1
          have HZ := Lib.hid (And.intro z1 (And.intro z2 (And.intro z3 (And.intro z4 z5))))
          clear z1 z2 z3 z4 z5
          go_wp2_with fail
          go_roundw
          case rel => exact ⟨k + 1, _, by omega, by go_num, HZ.out.1, HZ.out.2.1, HZ.out.2.2.1, HZ.out.2.2.2.1, HZ.out.2.2.2.2, by omega⟩
          case measure => simp [intOf]; omega
      · obtain rfl : k = l.length := by omega
        obtain ⟨tc0, tc1⟩ := tree_cells HTK.out
        have hpu := HPU.out
        rw [List.take_length] at hpu
        rw [e1] at tc0
        have HPU2 := Lib.hid hpu
        clear hpu tc1
        go_wp2_with fail
        go_ret2
        exact .inr ⟨HCH.out, Fk, rfl, HPU2.out, HTK.out, HBK.out, HFK.out⟩
  · obtain ⟨et, ev, rfl⟩ := errV_iface hve hch
    have HVE := Lib.hid hve
    have HCH := Lib.hid hch
    clear hve hch
    go_wp2_with fail
    go_ret2
    exact .inl ⟨HCH.out, _, _, rfl, HVE.out, HT.out.below hb2, hb2⟩
end Go.Proofs.YtlidenehfmlebaaGreatDoor
