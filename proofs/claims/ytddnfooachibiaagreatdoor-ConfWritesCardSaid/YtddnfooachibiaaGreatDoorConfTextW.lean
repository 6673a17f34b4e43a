/-
  Config.Text: modules as a text.
-/
import Derived.Test.YtddnfooachibiaaGreatDoorConfLike
import Derived.Deep.RegionHeld3
set_option linter.unusedVariables false
set_option linter.unusedSimpArgs false
namespace Go.Proofs.YtddnfooachibiaaGreatDoor
open Go.RowKit Go.Maps Go.WideMaps Go.WideAt
/-- A builder of the call's own that holds a text. -/
structure TB (w0 : World) (b : Nat) (L : List UInt8) (W : World) : Prop where
  at_ : Lib.IsBuilderF 87 5 w0.heap.size b (Lib.byteCells L) W
  bel : Below w0.heap.size w0 W
theorem TB.alloc {w0 W : World} {b : Nat} {L : List UInt8} (h : TB w0 b L W) (o : Obj) : TB w0 b L (W.alloc o) := ⟨h.at_.alloc o, below_from h.bel (below_one W o)⟩
/-- What a write leaves as it is. -/
def WKeep (b : Nat) (w w' : World) : Prop := Lib.OthersKept 5 (some b) w w'
theorem WKeep.block {b g : Nat} {w w' : World} {c : Array Value} {t : TypeId} {fz : Nat × Nat} (h : WKeep b w w') (hg : w.heap[g]? = some (.cells c t fz)) (hn : g ≠ b) (ht : t ≠ 5) : w'.heap[g]? = some (.cells c t fz) :=
  h g _ hg (fun e => hn (Option.some.inj e)) (fun c2 fz2 e => by injection e with _ e2 _; exact ht e2)
theorem write_any {w0 W : World} {b : Nat} {L : List UInt8} (s : ByteArray) (h : TB w0 b L W) (hl : L.length + s.size ≤ 140737488355328) :
    Calls Tryz.prog 37 #[.pointer (some ⟨b, 0, none⟩), .string s] W fun e w' => e = .returned (.tuple #[.int .i64 s.size, .nilIface]) ∧ TB w0 b (L ++ s.data.toList) w' ∧ WKeep b W w' := by
  refine (Tryz.Builder_WriteString_k w0.heap.size b (Lib.byteCells L) s W h.at_ (by simpa [Lib.byteCells] using hl) h.bel.size).mono ?_
  rintro e w' ⟨rfl, h1, h2, h3⟩
  refine ⟨rfl, ⟨.inr ?_, h.bel.trans h2⟩, h3⟩
  have e1 : Lib.byteCells (L ++ s.data.toList) = Lib.byteCells L ++ Lib.strCells s := by simp [Lib.byteCells, Lib.strCells]
  rw [e1]
  exact h1
theorem told_any {w0 W : World} {b : Nat} {L : List UInt8} (h : TB w0 b L W) : Calls Tryz.prog 39 #[.pointer (some ⟨b, 0, none⟩)] W fun e w' => e = .returned (.string (bA L)) ∧ Below w0.heap.size w0 w' := by
  refine (Tryz.Builder_String_any_f w0.heap.size b L W h.at_ h.bel.size).mono ?_
  rintro e w' ⟨rfl, _, h2⟩
  exact ⟨rfl, h.bel.trans h2⟩
theorem tb_new (w : World) (o : Obj) : TB w (w.heap.size + 1) [] ((w.alloc o).alloc (.cells #[.pointer none, .slice none 0 0] 87)) := by
  refine ⟨.inl ⟨Nat.le_succ _, .slice none 0 0, ?_, World.ownsRowF_nil _ _ _ _, by simp [Value.ownBlock]⟩, below_two w o _⟩
  have := heap_alloc_new (w.alloc o) (.cells #[.pointer none, .slice none 0 0] 87)
  rw [show (w.alloc o).heap.size = w.heap.size + 1 by simp] at this
  exact this
theorem TB.lt {w0 W : World} {b : Nat} {L : List UInt8} (h : TB w0 b L W) : b < W.heap.size := by
  rcases h.at_ with ⟨_, v, hh, _⟩ | ⟨_, v, hh, _⟩
  · exact (Array.getElem?_eq_some_iff.1 hh).1
  · exact (Array.getElem?_eq_some_iff.1 hh).1
theorem TB.below {w0 W W' : World} {b : Nat} {L : List UInt8} (h : TB w0 b L W) (hb : Below W.heap.size W W') : TB w0 b L W' := by
  have key : ∀ p, Lib.BuilderAtF 87 5 w0.heap.size b p (Lib.byteCells L) W → Lib.BuilderAtF 87 5 w0.heap.size b p (Lib.byteCells L) W' := by
    rintro p ⟨h1, v, hh, ⟨hl, hr⟩, hne⟩
    refine ⟨h1, v, block_below hh hb, ⟨hl, ?_⟩, hne⟩
    rcases hr with hr | ⟨g, cap, cur, fz, e1, e2, e3, e4⟩
    · exact .inl hr
    · exact .inr ⟨g, cap, cur, fz, e1, e2, block_below e3 hb, e4⟩
  refine ⟨?_, below_from h.bel hb⟩
  rcases h.at_ with h1 | h1
  · exact .inl (key _ h1)
  · exact .inr (key _ h1)
theorem dd_len : ∀ (f u : Nat), 0 < f → u < 10 ^ f → (Lib.decDigits u).length ≤ f
  | f + 1, u, _, h => by
    rw [Lib.decDigits.eq_1]
    split
    · simp
    · rename_i h10
      have hf : 0 < f := by
        rcases Nat.eq_zero_or_pos f with e | e
        · subst e; simp at h; omega
        · exact e
      have := dd_len f (u / 10) hf (by rw [Nat.pow_succ] at h; omega)
      simp; omega
theorem itoa_len {n : Int} (h0 : 0 ≤ n) (h1 : n ≤ 262144) : (Lib.itoa n).length ≤ 6 := by
  obtain ⟨u, rfl⟩ : ∃ u : Nat, n = u := ⟨n.toNat, by omega⟩
  rw [Lib.itoa_nonneg]
  exact dd_len 6 u (by decide) (by omega)
structure SmallM (m : ModC) : Prop where
  name : m.name.size ≤ 100
  root : m.root.size ≤ 200
  sl : 0 ≤ m.sl ∧ m.sl ≤ 262144
  qu : 0 ≤ m.qu ∧ m.qu ≤ 262144
  us : ∀ u ∈ m.us, u.1.size ≤ 100 ∧ u.2.size ≤ 100
  most : m.us.length ≤ 8
theorem usrs_few : ∀ (us : List (ByteArray × ByteArray)), (∀ u ∈ us, u.1.size ≤ 100 ∧ u.2.size ≤ 100) → (us.flatMap usrT).length ≤ us.length * 209
  | [], _ => by simp
  | u :: t, h => by
    have h1 := usrs_few t (fun x hx => h x (List.mem_cons_of_mem _ hx))
    have h2 := h u (by simp)
    have e1 : u.1.data.toList.length = u.1.size := by simp
    have e2 : u.2.data.toList.length = u.2.size := by simp
    rw [List.flatMap_cons, List.length_append, List.length_cons]
    have : (usrT u).length ≤ 209 := by simp only [usrT, List.length_append, List.length_cons, List.length_nil, e1, e2]; omega
    omega
theorem modT_few {m : ModC} (h : SmallM m) : (modT m).length ≤ 4000 := by
  have e1 : m.name.data.toList.length = m.name.size := by simp
  have e2 : m.root.data.toList.length = m.root.size := by simp
  have h1 := h.name
  have h2 := h.root
  have h3 := itoa_len h.sl.1 h.sl.2
  have h4 := itoa_len h.qu.1 h.qu.2
  have h5 := usrs_few m.us h.us
  have h6 := h.most
  have h7 : (if m.wr then [121, 101, 115] else [110, 111] : List UInt8).length ≤ 3 := by split <;> simp
  simp only [modT, List.length_append, List.length_cons, List.length_nil, e1, e2]
  omega
theorem textC_few : ∀ (ms : List ModC), (∀ m ∈ ms, SmallM m) → (textC ms).length ≤ ms.length * 4000
  | [], _ => by simp [textC]
  | m :: t, h => by
    have h1 := textC_few t (fun x hx => h x (List.mem_cons_of_mem _ hx))
    have h2 := modT_few (h m (by simp))
    rw [show textC (m :: t) = modT m ++ textC t from rfl, List.length_append, List.length_cons]
    omega
theorem textC_take {ms : List ModC} {k : Nat} (hk : k < ms.length) : textC (ms.take (k + 1)) = textC (ms.take k) ++ modT ms[k] := by
  unfold textC
  rw [List.take_succ_eq_append_getElem hk, List.flatMap_append, List.flatMap_cons, List.flatMap_nil, List.append_nil]
theorem usr_take {us : List (ByteArray × ByteArray)} {k : Nat} (hk : k < us.length) : (us.take (k + 1)).flatMap usrT = (us.take k).flatMap usrT ++ usrT us[k] := by
  rw [List.take_succ_eq_append_getElem hk, List.flatMap_append, List.flatMap_cons, List.flatMap_nil, List.append_nil]
theorem good_small {m : ModC} (h : GoodM m) : SmallM m := by
  have hn := h.name
  unfold nameC at hn
  simp only [Bool.and_eq_true, decide_eq_true_eq] at hn
  have e1 : m.name.data.toList.length = m.name.size := by simp
  have hr : m.root.size ≤ 200 := by
    by_cases hbg : 64 < m.root.size
    · exfalso
      have : checkB m.root ≠ none := by
        unfold checkB
        rw [if_pos (by simp; right; omega)]
        simp
      exact this h.root
    · omega
  refine ⟨by omega, hr, ⟨by have := h.sl.1; omega, by have := h.sl.2; omega⟩, h.qu, fun u hu => ?_, h.most⟩
  have hu1 := (h.us u hu).name
  have hu2 := (h.us u hu).len
  unfold nameC at hu1
  simp only [Bool.and_eq_true, decide_eq_true_eq] at hu1
  have e2 : u.1.data.toList.length = u.1.size := by simp
  have e3 : u.2.data.toList.length = u.2.size := by simp
  exact ⟨by omega, by omega⟩
set_option maxRecDepth 100000 in
set_option maxHeartbeats 2000000 in
theorem text_any (v : Value) (q : List MRow) (w : World) (hl : q.length ≤ 8) (hsm : ∀ r ∈ q, SmallM r.md) (hq : ModsIn w v q) (hg : EnvC w) : Calls Tryz.prog 19 #[.agg #[v]] w fun e w' => e = .returned (.string (bA (textC (q.map MRow.md)))) ∧ Below w.heap.size w w' := by
  obtain ⟨Aq, cq, rfl, hcq⟩ := RowIn.slice hq.row
  have HQ := Lib.hid hq
  have HSM := Lib.hid hsm
  have HG := Lib.hid hg
  have HTB0 := Lib.hid (tb_new w (.cells #[.slice Aq q.length cq] 25))
  have hml : (q.map MRow.md).length = q.length := by simp
  have HMS : Hid (∀ j (hj : j < q.length), (q.map MRow.md)[j]'(by simpa using hj) = q[j].md) := Lib.hid (fun j hj => by simp)
  obtain ⟨ms, hms⟩ : ∃ ms, ms = q.map MRow.md := ⟨_, rfl⟩
  rw [← hms] at hml ⊢
  have HM : Hid (∀ j (hj : j < q.length) (hj2 : j < ms.length), ms[j] = q[j].md) := Lib.hid (fun j hj hj2 => by subst hms; exact HMS.out j hj)
  have HFEW : Hid (∀ k, (textC (ms.take k)).length ≤ 32000) := Lib.hid (fun k => by
    have h1 := textC_few (ms.take k) (fun m hm => by
      have := List.mem_of_mem_take hm
      rw [hms] at this
      obtain ⟨r, hr, rfl⟩ := List.mem_map.1 this
      exact hsm r hr)
    have h2 : (ms.take k).length ≤ 8 := by rw [List.length_take]; omega
    omega)
  clear hq hsm hg hms HMS
  go_enter Tryz.func19, Tryz.ntmps19
  go_wp2_with fail
  go_loopw [5, 7, 11] (fun _ _ i wr => ∃ k : Nat, k ≤ q.length ∧ i = .int .i64 k ∧ TB w (w.heap.size + 1) (textC (ms.take k)) wr) (fun _ _ i _ => q.length - (intOf i).toNat)
  case atStart => exact ⟨0, by omega, rfl, HTB0.out⟩
  case round =>
    obtain ⟨k, hk, rfl, htb⟩ := hrel
    obtain ⟨wk, rfl⟩ : ∃ W, W = wr := ⟨wr, rfl⟩
    have HTB := Lib.hid htb
    have hblt := htb.lt
    clear HTB0
    by_cases hlt : k < q.length
    · obtain ⟨c2, b, off, nm, rt, wb, sl, qu, us, Au, cu, hm, e2, ⟨x0, x1, x2, x3, x4, x5⟩, hu⟩ := HQ.out.one k hlt
      replace x0 := cell_below htb.bel x0
      replace x1 := cell_below htb.bel x1
      replace x2 := cell_below htb.bel x2
      replace x3 := cell_below htb.bel x3
      replace x4 := cell_below htb.bel x4
      replace x5 := cell_below htb.bel x5
      injection e2 with e2 hz1 e3
      clear hz1
      subst e2 e3
      have hsm := HSM.out _ (List.getElem_mem hlt)
      rw [hm] at hsm
      have hnz : nm.size ≤ 100 := hsm.name
      have hrz : rt.size ≤ 200 := hsm.root
      have HUS := Lib.hid hsm.us
      have hun : us.length ≤ 8 := hsm.most
      have hi1 := itoa_len hsm.sl.1 hsm.sl.2
      have hi2 := itoa_len hsm.qu.1 hsm.qu.2
      have HI1 : Hid (∀ W, Below w.heap.size w W → Calls Tryz.prog 38 #[.int .i64 sl] W fun e w' => e = .returned (.string (bA (Lib.itoa sl))) ∧ Below W.heap.size W w') := Lib.hid (fun W hW => itoa_any sl W (by have := hsm.sl.1; simp only at this; omega) (by have := hsm.sl.2; simp only at this; omega) (HG.out.below hW))
      have HI2 : Hid (∀ W, Below w.heap.size w W → Calls Tryz.prog 38 #[.int .i64 qu] W fun e w' => e = .returned (.string (bA (Lib.itoa qu))) ∧ Below W.heap.size W w') := Lib.hid (fun W hW => itoa_any qu W (by have := hsm.qu.1; simp only at this; omega) (by have := hsm.qu.2; simp only at this; omega) (HG.out.below hW))
      have HU := Lib.hid hu
      have HEQ : Hid (textC (ms.take (k + 1)) = textC (ms.take k) ++ modT ⟨nm, rt, wb, sl, qu, us⟩) := Lib.hid (by rw [textC_take (by omega), HM.out k hlt (by omega), hm])
      have HF1 := Lib.hid (HFEW.out k)
      have hm1 := heap_alloc_new wk (.cells #[.string nm, .string rt, .bool wb, .int .i64 sl, .int .i64 qu, .slice Au us.length cu] 41)
      have HT1 := Lib.hid (htb.alloc (.cells #[.string nm, .string rt, .bool wb, .int .i64 sl, .int .i64 qu, .slice Au us.length cu] 41))
      have HM1 := Lib.hid hm1
      have HBL := Lib.hid hblt
      obtain ⟨i1, hi1e⟩ : ∃ x, x = bA (Lib.itoa sl) := ⟨_, rfl⟩
      obtain ⟨i2, hi2e⟩ : ∃ x, x = bA (Lib.itoa qu) := ⟨_, rfl⟩
      have hz1 : i1.size ≤ 6 := by rw [hi1e, bA_size]; exact hi1
      have hz2 : i2.size ≤ 6 := by rw [hi2e, bA_size]; exact hi2
      have HL1 : Hid (i1.data.toList = Lib.itoa sl) := Lib.hid (by rw [hi1e]; rfl)
      have HL2 : Hid (i2.data.toList = Lib.itoa qu) := Lib.hid (by rw [hi2e]; rfl)
      rw [← hi1e] at HI1
      rw [← hi2e] at HI2
      clear hsm hi1 hi2 hu hm htb hm1 hblt hi1e hi2e
      go_wp2_with fail
      have z1 : (⟨#[91]⟩ : ByteArray).size = 1 := rfl
      have z2 : (⟨#[93, 10, 114, 111, 111, 116, 32, 61, 32]⟩ : ByteArray).size = 9 := rfl
      have z3 : (⟨#[10, 119, 114, 105, 116, 101, 32, 61, 32]⟩ : ByteArray).size = 9 := rfl
      have hsz5 : (⟨#[91]⟩ ++ nm ++ ⟨#[93, 10, 114, 111, 111, 116, 32, 61, 32]⟩ ++ rt ++ ⟨#[10, 119, 114, 105, 116, 101, 32, 61, 32]⟩ : ByteArray).size ≤ 319 := by
        simp only [ByteArray.size_append]; omega
      refine (write_any _ HT1.out ?hl).mono ?_
      case hl => have := HF1.out; omega
      rintro e w5 ⟨rfl, ht5, hk5⟩
      have hm5 := hk5.block HM1.out (by have := HBL.out; omega) (by decide)
      obtain ⟨L5, hL5⟩ : ∃ L, L = textC (ms.take k) ++ (⟨#[91]⟩ ++ nm ++ ⟨#[93, 10, 114, 111, 111, 116, 32, 61, 32]⟩ ++ rt ++ ⟨#[10, 119, 114, 105, 116, 101, 32, 61, 32]⟩ : ByteArray).data.toList := ⟨_, rfl⟩
      rw [← hL5] at ht5
      have hl5 : L5.length ≤ 33000 := by
        have := HF1.out
        rw [hL5, List.length_append, size_len]
        omega
      have HL5 : Hid (L5 = textC (ms.take k) ++ ([91] ++ nm.data.toList ++ [93, 10, 114, 111, 111, 116, 32, 61, 32] ++ rt.data.toList ++ [10, 119, 114, 105, 116, 101, 32, 61, 32])) := Lib.hid (by rw [hL5]; simp [ByteArray.data_append])
      have y2 : w5.cell? ⟨wk.heap.size, 2, none⟩ = some (.bool wb) := by rw [cell_of_row _ _ 2 _ _ _ hm5]; rfl
      have HT5 := Lib.hid ht5
      have HM5 := Lib.hid hm5
      obtain ⟨g, hg⟩ : ∃ g, g = wk.heap.size := ⟨_, rfl⟩
      have hgb : g ≠ w.heap.size + 1 := by have := HBL.out; omega
      rw [← hg] at y2 HM5 ⊢
      clear HT1 HM1 HBL hsz5 z1 z2 z3 hL5 ht5 hk5 hm5 hg x0 x1 x2 x3 x4 x5
      rcases hwb : wb with _ | _
      all_goals
        rw [hwb] at y2
        go_wp2_with fail
        refine (write_any _ HT5.out ?hl2).mono ?_
        case hl2 => have : (⟨#[121, 101, 115]⟩ : ByteArray).size = 3 := rfl; have : (⟨#[110, 111]⟩ : ByteArray).size = 2 := rfl; omega
        rintro e w6 ⟨rfl, ht6, hk6⟩
        replace ht6 : TB w (w.heap.size + 1) (L5 ++ (if wb then [121, 101, 115] else [110, 111])) w6 := by rw [hwb]; exact ht6
        obtain ⟨L6, hL6⟩ : ∃ L, L = L5 ++ (if wb then [121, 101, 115] else [110, 111]) := ⟨_, rfl⟩
        rw [← hL6] at ht6
        have hl6 : L6.length ≤ 33003 := by rw [hL6, List.length_append]; split <;> simp <;> omega
        have HL6 := Lib.hid hL6
        have HT6 := Lib.hid ht6
        have hm6 := hk6.block HM5.out hgb (by decide)
        have HM6 := Lib.hid hm6
        have HS : Hid (∀ W, Below w6.heap.size w6 W → W.cell? ⟨g, 3, none⟩ = some (.int .i64 sl) ∧ W.cell? ⟨g, 4, none⟩ = some (.int .i64 qu)) := Lib.hid (fun W hW => ⟨by rw [cell_of_row _ _ 3 _ _ _ (block_below HM6.out hW)]; rfl, by rw [cell_of_row _ _ 4 _ _ _ (block_below HM6.out hW)]; rfl⟩)
        have s6 := Lib.hid (HS.out w6 (Below.refl _ _))
        have HD6 : Hid (Below w6.heap.size w6 w6.drew) := Lib.hid (Below.refl _ _).drew
        clear hL6 ht6 hk6 hm6 hwb y2
        go_upto_region 9 with fail
        obtain ⟨L9, hL9⟩ : ∃ L, L = L6 ++ (⟨#[10, 115, 108, 111, 116, 115, 32, 61, 32]⟩ ++ i1 ++ ⟨#[10, 113, 117, 111, 116, 97, 32, 61, 32]⟩ ++ i2 ++ ⟨#[10]⟩ : ByteArray).data.toList := ⟨_, rfl⟩
        have hl9 : L9.length ≤ 33100 := by
          rw [hL9, List.length_append, size_len]
          simp only [ByteArray.size_append]
          have c1 : (⟨#[10, 115, 108, 111, 116, 115, 32, 61, 32]⟩ : ByteArray).size = 9 := rfl
          have c2 : (⟨#[10, 113, 117, 111, 116, 97, 32, 61, 32]⟩ : ByteArray).size = 9 := rfl
          have c3 : (⟨#[10]⟩ : ByteArray).size = 1 := rfl
          omega
        have HL9 : Hid (L9 ++ us.flatMap usrT = textC (ms.take (k + 1))) := Lib.hid (by
          rw [HEQ.out, hL9, HL6.out, HL5.out]
          simp [ByteArray.data_append, HL1.out, HL2.out, modT])
        have HLE := Lib.hid hL9
        clear hL9
        go_cut [38] from 28 to 38 (fun _ wc => TB w (w.heap.size + 1) L9 wc ∧ wc.heap[g]? = some (Obj.cells #[.string nm, .string rt, .bool wb, .int .i64 sl, .int .i64 qu, .slice Au us.length cu] 41 (0, 0)))
        case first =>
          have c1 : (⟨#[10, 115, 108, 111, 116, 115, 32, 61, 32]⟩ : ByteArray).size = 9 := rfl
          have c2 : (⟨#[10, 113, 117, 111, 116, 97, 32, 61, 32]⟩ : ByteArray).size = 9 := rfl
          have c3 : (⟨#[10]⟩ : ByteArray).size = 1 := rfl
          have d1 : ∀ W : World, (Op.stringOp BinOp.add (⟨#[10, 115, 108, 111, 116, 115, 32, 61, 32]⟩) (i1)).run Tryz.prog W = .ok (.string ((⟨#[10, 115, 108, 111, 116, 115, 32, 61, 32]⟩ : ByteArray) ++ i1)) W := fun W => run_string_add_sum W _ _ (by first | omega | (simp only [ByteArray.size_append]; omega))
          have d2 : ∀ W : World, (Op.stringOp BinOp.add (⟨#[10, 115, 108, 111, 116, 115, 32, 61, 32]⟩ ++ i1) (⟨#[10, 113, 117, 111, 116, 97, 32, 61, 32]⟩)).run Tryz.prog W = .ok (.string ((⟨#[10, 115, 108, 111, 116, 115, 32, 61, 32]⟩ ++ i1 : ByteArray) ++ ⟨#[10, 113, 117, 111, 116, 97, 32, 61, 32]⟩)) W := fun W => run_string_add_sum W _ _ (by first | omega | (simp only [ByteArray.size_append]; omega))
          have d3 : ∀ W : World, (Op.stringOp BinOp.add (⟨#[10, 115, 108, 111, 116, 115, 32, 61, 32]⟩ ++ i1 ++ ⟨#[10, 113, 117, 111, 116, 97, 32, 61, 32]⟩) (i2)).run Tryz.prog W = .ok (.string ((⟨#[10, 115, 108, 111, 116, 115, 32, 61, 32]⟩ ++ i1 ++ ⟨#[10, 113, 117, 111, 116, 97, 32, 61, 32]⟩ : ByteArray) ++ i2)) W := fun W => run_string_add_sum W _ _ (by first | omega | (simp only [ByteArray.size_append]; omega))
          have d4 : ∀ W : World, (Op.stringOp BinOp.add (⟨#[10, 115, 108, 111, 116, 115, 32, 61, 32]⟩ ++ i1 ++ ⟨#[10, 113, 117, 111, 116, 97, 32, 61, 32]⟩ ++ i2) (⟨#[10]⟩)).run Tryz.prog W = .ok (.string ((⟨#[10, 115, 108, 111, 116, 115, 32, 61, 32]⟩ ++ i1 ++ ⟨#[10, 113, 117, 111, 116, 97, 32, 61, 32]⟩ ++ i2 : ByteArray) ++ ⟨#[10]⟩)) W := fun W => run_string_add_sum W _ _ (by first | omega | (simp only [ByteArray.size_append]; omega))
          clear c1 c2 c3
          go_region_held3 (fun w' => w'.cell? ⟨g, 3, none⟩ = some (.int .i64 sl) ∧ w'.cell? ⟨g, 4, none⟩ = some (.int .i64 qu))
            (first
              | exact s9.out
              | exact s8.out
              | exact s7.out
              | exact s6.out)
            (first
              | (go_at_call 38
                 first
                   | (refine (HI2.out _ ?hb2).mono ?_
                      case hb2 => exact below_from HT6.out.bel (below_from HD6.out HB7.out)
                      rintro e w8 ⟨rfl, hb8⟩
                      have HB8 := Lib.hid hb8
                      have s8 := Lib.hid (HS.out w8 (below_from HD6.out (below_from HB7.out hb8)))
                      clear hb8)
                   | (refine (HI1.out _ ?hb1).mono ?_
                      case hb1 => exact below_from HT6.out.bel HD6.out
                      rintro e w7 ⟨rfl, hb7⟩
                      have HB7 := Lib.hid hb7
                      have s7 := Lib.hid (HS.out w7 (below_from HD6.out hb7))
                      clear hb7))
              | (go_at_call 37
                 have HT8 := Lib.hid (TB.below (TB.below (TB.below HT6.out HD6.out) HB7.out) HB8.out)
                 have HM8 := Lib.hid (block_below (block_below (block_below HM6.out HD6.out) HB7.out) HB8.out)
                 refine (write_any _ HT8.out ?hl3).mono ?_
                 case hl3 => simp only [ByteArray.size_append]; have c1 : (⟨#[10, 115, 108, 111, 116, 115, 32, 61, 32]⟩ : ByteArray).size = 9 := rfl; have c2 : (⟨#[10, 113, 117, 111, 116, 97, 32, 61, 32]⟩ : ByteArray).size = 9 := rfl; have c3 : (⟨#[10]⟩ : ByteArray).size = 1 := rfl; omega
                 rintro e w9 ⟨rfl, ht9, hk9⟩
                 have hm9 := hk9.block HM8.out hgb (by decide)
                 have s9 : Hid (w9.cell? ⟨g, 3, none⟩ = some (.int .i64 sl) ∧ w9.cell? ⟨g, 4, none⟩ = some (.int .i64 qu)) := Lib.hid ⟨by rw [cell_of_row _ _ 3 _ _ _ hm9]; rfl, by rw [cell_of_row _ _ 4 _ _ _ hm9]; rfl⟩
                 have HT9 := Lib.hid ht9
                 have HM9 := Lib.hid hm9
                 clear ht9 hk9 hm9))
          all_goals
            go_wp2_with fail
            go_meet
            case rel => exact ⟨by rw [HLE.out]; exact HT9.out, HM9.out⟩
        case rest =>
          obtain ⟨ht9, hm9⟩ := hcut
          obtain ⟨w9, rfl⟩ : ∃ W, W = wc := ⟨wc, rfl⟩
          have y5 : w9.cell? ⟨g, 5, none⟩ = some (.slice Au us.length cu) := by rw [cell_of_row _ _ 5 _ _ _ hm9]; rfl
          have HT9 := Lib.hid ht9
          clear ht9 hm9 HI1 HI2 HD6 s6 HS HLE
          go_wp2_with fail
          go_loopw [7, 42] (fun _ i wr => ∃ j : Nat, j ≤ us.length ∧ i = .int .i64 j ∧ TB w (w.heap.size + 1) (L9 ++ (us.take j).flatMap usrT) wr) (fun _ i _ => us.length - (intOf i).toNat)
          case atStart => exact ⟨0, by omega, rfl, by simpa using HT9.out⟩
          case round =>
            obtain ⟨j, hj, rfl, htj⟩ := hrel
            obtain ⟨wj, rfl⟩ : ∃ W, W = wr := ⟨wr, rfl⟩
            by_cases hjl : j < us.length
            · obtain ⟨A4, c4, e4, _, hc4⟩ := UsersIn.at_ (RowIn.below HU.out htj.bel)
              injection e4 with e4 hz3 hz4
              clear hz3
              subst e4 hz4
              obtain ⟨b4, o4, rfl, x0, x1⟩ := hc4 j hjl
              obtain ⟨hu0z, hu1z⟩ := HUS.out _ (List.getElem_mem hjl)
              have HSTEP : Hid ((us.take (j + 1)).flatMap usrT = (us.take j).flatMap usrT ++ usrT us[j]) := Lib.hid (usr_take hjl)
              have hfew : ((us.take j).flatMap usrT).length ≤ 1672 := by
                have h1 := usrs_few (us.take j) (fun u hu => HUS.out u (List.mem_of_mem_take hu))
                rw [List.length_take] at h1
                omega
              obtain ⟨⟨u0, u1⟩, hu01⟩ : ∃ x, x = us[j] := ⟨_, rfl⟩
              rw [← hu01] at x0 x1 hu0z hu1z HSTEP
              simp only at x0 x1 hu0z hu1z
              have HTJ := Lib.hid (htj.alloc (.cells #[.string u0, .string u1] 54))
              clear hc4 hu01 htj
              go_wp2_with fail
              refine (write_any _ HTJ.out ?hl4).mono ?_
              case hl4 => simp only [ByteArray.size_append, List.length_append]; have c1 : (⟨#[117, 115, 101, 114, 32, 61, 32]⟩ : ByteArray).size = 7 := rfl; have c2 : (⟨#[58]⟩ : ByteArray).size = 1 := rfl; have c3 : (⟨#[10]⟩ : ByteArray).size = 1 := rfl; omega
              rintro e w10 ⟨rfl, ht10, hk10⟩
              have HT10 : Hid (TB w (w.heap.size + 1) (L9 ++ (us.take (j + 1)).flatMap usrT) w10) := Lib.hid (by
                rw [HSTEP.out]
                have e1 : (⟨#[117, 115, 101, 114, 32, 61, 32]⟩ ++ u0 ++ ⟨#[58]⟩ ++ u1 ++ ⟨#[10]⟩ : ByteArray).data.toList = usrT (u0, u1) := by simp [ByteArray.data_append, usrT]
                rw [e1, List.append_assoc] at ht10
                exact ht10)
              clear ht10 hk10
              go_wp2_with fail
              go_roundw
              case rel => exact ⟨j + 1, by omega, by go_num, HT10.out⟩
              case measure => simp [intOf]; omega
            · obtain rfl : j = us.length := by omega
              rw [List.take_length, HL9.out] at htj
              have HTJ := Lib.hid htj
              clear htj
              go_wp2_with fail
              go_roundw
              case rel => exact ⟨k + 1, by omega, by go_num, HTJ.out⟩
              case measure => simp [intOf]; omega
    · obtain rfl : k = q.length := by omega
      have HTO := Lib.hid (told_any htb)
      have HEQ : Hid (textC (ms.take q.length) = textC ms) := Lib.hid (by rw [← hml, List.take_length])
      rw [HEQ.out] at HTO
      clear htb
      go_wp2_with fail
      refine HTO.out.mono ?_
      rintro e w5 ⟨rfl, hb5⟩
      have HB5 := Lib.hid hb5
      clear hb5
      go_wp2_with fail
      go_ret
      exact ⟨rfl, HB5.out⟩
end Go.Proofs.YtddnfooachibiaaGreatDoor
