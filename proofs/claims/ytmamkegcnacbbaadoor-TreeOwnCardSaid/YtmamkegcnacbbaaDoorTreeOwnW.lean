/-
  The law TreeOwn, walked.
-/
import Derived.Test.YtmamkegcnacbbaaDoorTreeHead
import Derived.Test.YtmamkegcnacbbaaDoorArgs
set_option linter.unusedVariables false
set_option linter.unusedSimpArgs false
namespace Go.Proofs.YtmamkegcnacbbaaDoor
open Go.RowKit Go.Maps Go.WideMaps Go.WideAt
open Go.Proofs.YtmamkegcnacbbaaDoorW.PrintWords (Kd ReadsRow)
theorem TreeAt.written {w w' : World} {base base' g b now n : Nat} {v : Value} {xs : List Value} {F : List FileS} (h : TreeAt w base g b now F) (ho : w.ownsRow base' 5 1 v n xs) (hg : w.grownBy w' v.ownBlock) (hd : ∀ f ∈ F, ∀ r ∈ f.rows, ∀ k, r.val.ownBlock = some k → v.ownBlock ≠ some k) : TreeAt w' base g b now F := by
  rcases ho.2 with ⟨rfl, _⟩ | ⟨m, cap, cur, rfl, _, hm, _⟩
  · exact h.below ⟨hg.os, hg.tape, hg.output, hg.size, fun k hk => hg.block k hk (by simp [Value.ownBlock])⟩
  · refine h.poked hm hg (fun f hf r hr e => ?_)
    exact hd f hf r hr m e rfl
theorem grown_refl (w : World) (row : Option Nat) : w.grownBy w row := ⟨rfl, rfl, rfl, Nat.le_refl _, fun _ _ _ => rfl⟩
/-- A row of bytes, one byte written. -/
theorem byte_stored {W wr : World} {base c : Nat} {A : Option Addr} {xs : List Int} {n k : Nat} (ho : wr.ownsRow base 5 1 (.slice A n c) n (u8V xs)) (hx : xs.length = n) (hg : W.grownBy wr (Value.slice A n c).ownBlock) (hk : k < n) :
    ∃ m, A = some ⟨m, 0, none⟩ ∧ wr.cell? ⟨m, k, none⟩ = some (.int .u8 (xs.getD k 0)) ∧ wr.frozen? ⟨m, k, none⟩ = false ∧ ∀ y, (wr.setCell ⟨m, k, none⟩ (.int .u8 y)).ownsRow base 5 1 (.slice A n c) n (u8V (xs.set k y)) ∧ W.grownBy (wr.setCell ⟨m, k, none⟩ (.int .u8 y)) (Value.slice A n c).ownBlock := by
  obtain ⟨m, cap, e, _⟩ := ho.form (by omega)
  injection e with e1 _ e3
  subst e1
  refine ⟨m, rfl, ?_, ho.frozenAt k, fun y => ?_⟩
  · rw [ho.cellAt k (by omega)]
    simp [u8V, List.getD, show k < xs.length by omega]
  · obtain ⟨h1, h2⟩ := ho.stored k (.int .u8 y)
    have e2 : u8V (xs.set k y) = (u8V xs).set k (.int .u8 y) := by simp [u8V, List.map_set]
    rw [e2]
    exact ⟨h1, grown_trans hg h2⟩
theorem wpList_append_bytes {w3 : World} {ops : Array Oper} {rest : List Oper} {o : Oper} {a : Act} {Q : Exit → Act → World → Prop} (hgd : o.guard = none) (s x : Operand)
    (ho : o.op = .call { callee := .builtin .append, args := #[s, x], argTypes := #[41, 41] })
    (A : Option Addr) (c : Nat) (l : List Int) (hs : a.eval s = .slice (some ⟨w3.heap.size, 0, none⟩) 0 0) (hx : a.eval x = .slice A l.length c) (hr : ByteRow w3 A l) (hA : A = none → l.length = 0) (hl : l.length ≤ 300000)
    (h : ∀ v' w', w'.ownsRow w3.heap.size 5 1 v' l.length (u8V l) → Below w3.heap.size w3 w' → wpList Tryd.prog ops Q rest (a.put o.dst v') w') : wpList Tryd.prog ops Q (o :: rest) a (w3.alloc (.cells #[] 5)) := by
  obtain ⟨i0, hi0, hz0, hz1, hz2⟩ := info_parts infoU8
  have hown0 : (w3.alloc (.cells #[] 5)).ownsRow w3.heap.size 5 1 (.slice (some ⟨w3.heap.size, 0, none⟩) 0 0) 0 [] := World.ownsRow_lit w3 #[] 0 (Nat.le_refl _) (by simp) (by simp)
  have hb1 := below_one w3 (.cells #[] 5)
  cases A with
  | none =>
    obtain rfl : l = [] := List.length_eq_zero_iff.1 (hA rfl)
    exact wpList_append_nothing hgd s x 41 ho 5 i0 Tryd.underlying41 hi0 (some ⟨w3.heap.size, 0, none⟩) 0 0 hs (Nat.le_refl _) none c hx (h _ _ hown0 hb1)
  | some ad =>
    refine wpList_append_own _ hgd s x 41 ho w3.heap.size 5 i0 (.int .u8 0) 1 1 Tryd.underlying41 hi0 hz0 hz1 hz2 rfl (by decide) (.slice (some ⟨w3.heap.size, 0, none⟩) 0 0) 0 [] hs hown0 ad l.length c (u8V l) hx (by simp [u8V]) (fun j u hj => cell_below hb1 (hr ad rfl j u hj)) (u8V_one l) (by unfold maxLen; omega) (by omega) hb1.size ?_
    intro v' w' ho' hg' _
    refine h v' w' (by simpa using ho') (hb1.grown hg' hb1.size (fun k hk => ?_))
    have : w3.heap.size = k := by simpa [Value.ownBlock] using hk
    omega
set_option maxRecDepth 100000 in
set_option maxHeartbeats 8000000 in
theorem treeOwn_walk (v : Value) (l : List Int) (w : World) (hv : SliceArg (Kd.int .u8) w v l) (hgood : ∀ x ∈ l, (Lit.int .u8 x).wf = true) (hg : EnvM w) :
    Calls Tryd.prog 8 #[v] w fun e w' => e = .returned (.bool true) ∧ Below w.heap.size w w' := by
  obtain ⟨A, c, rfl, hlc, hcm, hC⟩ := hv
  obtain ⟨hrow, hA⟩ := byteRow_of hC
  have hmx : (maxLen : Nat) = 9223372036854775807 := rfl
  have HK := Lib.hid (grows_any w hg)
  have HG := Lib.hid hg
  have HROW := Lib.hid hrow
  have HA := Lib.hid hA
  have HGD := Lib.hid hgood
  clear hC hgood hg hrow hA
  by_cases hl : l.length ≤ 1000
  · have d1 : decide ((1000 : Int) < (l.length : Int)) = false := by simp; omega
    go_enter Tryd.func8, Tryd.ntmps8
    go_wp2_with fail
    refine HK.out.mono ?_
    rintro e w1 ⟨rfl, hb1⟩
    go_wp2_with fail
    refine (new_tree w1).mono ?_
    rintro e w2 ⟨g, b, rfl, ht2, hb2⟩
    have HT2 := Lib.hid ht2
    have HB2 := Lib.hid (below_from hb1 hb2)
    have HB1 := Lib.hid hb1
    have hs12 := hb2.size
    have hs01 := hb1.size
    have HROW2 := Lib.hid (HROW.out.below HB2.out)
    clear ht2 hb2 hb1
    go_wp2_with (at_builtin; refine wpList_append_bytes rfl (.tmp 18) (.tmp 19) rfl A c l (by simp [Act.eval, Act.put]) (by simp [Act.eval, Act.put]) HROW2.out HA.out (by omega) ?_; intro vm w3 ho3 hb3; obtain ⟨Am, cm, rfl⟩ := own_slice ho3)
    have hbl := below_one w3 (.cells #[.string ⟨#[97]⟩, .slice Am l.length cm, .bool false] 43)
    have ho4 := own_stay ho3 hbl
    have hsz2 := HB2.out.size
    have hsz3 := hb3.size
    have hB3 := below_from HB2.out hb3
    have ht4 := (HT2.out.below hb3).below hbl
    obtain ⟨_, _, hle3, _⟩ : ∃ A' c', (Value.slice Am l.length cm = .slice A' l.length c') ∧ l.length ≤ c' ∧ True := by
      obtain ⟨A', c', h1, h2, _⟩ := own_bytes ho3
      exact ⟨A', c', h1, h2, trivial⟩
    have hch := chk_put (now := 0) (F := []) (d := l) path_a (fun f hf => by cases hf) (by omega) (by omega)
    refine (commit_one g b 0 w3.heap.size ⟨#[97]⟩ Am cm l false [] _ (base := w1.heap.size) (heap_alloc_new w3 _) (bytesIn_own ho4) (by injection hle3 with _ _ e; omega) (by decide) HGD.out (by omega) (by simp [mapN]) (by omega) ht4 (Nat.le_trans (by omega) hbl.size) (HG.out.below (below_from hB3 hbl))).mono ?_
    rintro e w5 hp5
    obtain ⟨F1, rfl, hpu, ht5, hb5, hf5, hm5⟩ := commit_ok ht4 hch rfl hp5
    have ho5 := hf5.own ho4 ⟨by decide, by decide⟩ ht4.noCells
    have hd5 : ∀ f ∈ F1, ∀ r ∈ f.rows, ∀ k, r.val.ownBlock = some k → (Value.slice Am l.length cm).ownBlock ≠ some k := fun f hf r hr k hk e => by
      rcases puts_rows hpu f hf r hr with ⟨f0, h0, _⟩ | ⟨_, h1⟩
      · cases h0
      · have := h1 k hk
        have := (ho4.lt k e).2
        omega
    have hB5 : Below w.heap.size w w5 := (below_from hB3 hbl).trans (hb5.mono hs01)
    have hlr := fun {v : Int} (h0 : (1 : Int) ≤ v) (h1 : v ≤ 1) => lit_read (now := 1) hpu (ver := v) h0 h1
    have HR := Lib.hid (hlr (Int.le_refl _) (Int.le_refl _))
    have HO5 := Lib.hid ho5
    have HD5 := Lib.hid hd5
    have HT5 := Lib.hid ht5
    have HB5 := Lib.hid hB5
    have hm5' : mapN F1 = 1 := hm5
    have HS5 := Lib.hid (ht5.small (Nat.le_of_eq hm5'))
    have hs5 := hB5.size
    have hlt5 := ho5.lt
    have HLT5 := Lib.hid hlt5
    clear hbl ho4 ho3 hb3 hB3 ht4 hle3 hch hp5 hpu ht5 hb5 hf5 hm5 ho5 hd5 hB5 hlr hlt5
    go_wp2_with fail
    go_loopw [33] (fun i wr => ∃ (k : Nat) (xs : List Int), k ≤ l.length ∧ i = .int .i64 k ∧ xs.length = l.length ∧ wr.ownsRow w2.heap.size 5 1 (.slice Am l.length cm) l.length (u8V xs) ∧ w5.grownBy wr (Value.slice Am l.length cm).ownBlock) (fun i _ => l.length - (intOf i).toNat)
    case atStart => exact ⟨0, l, by omega, rfl, rfl, HO5.out, grown_refl _ _⟩
    case round =>
      obtain ⟨k, xs, hk, rfl, hxs, hor, hgr⟩ := hrel
      by_cases hlt : k < l.length
      · obtain ⟨m, rfl, hc0, hf0, hst⟩ := byte_stored hor hxs hgr hlt
        have HST := Lib.hid hst
        clear hst hor hgr
        go_wp2_with fail
        go_roundw
        case rel => exact ⟨k + 1, _, by omega, by go_num, by simpa using hxs, (HST.out _).1, (HST.out _).2⟩
        case measure => simp [intOf]; omega
      · obtain rfl : k = l.length := by omega
        obtain ⟨W1, rfl⟩ : ∃ W1, W1 = wr := ⟨wr, rfl⟩
        have htw := HT5.out.written HO5.out hgr HD5.out
        have hbw : Below w.heap.size w W1 := HB5.out.grown hgr hs5 (fun k hk => by have := (HLT5.out k hk).1; omega)
        have HTW := Lib.hid htw
        have HBW := Lib.hid hbw
        have hsw := hbw.size
        clear htw hbw hor hgr
        go_wp2_with fail
        refine (read_any g b 1 1 ⟨#[97]⟩ F1 W1 (base := w1.heap.size) (by decide) (fun f hf => Nat.le_trans (HS5.out.2 f hf) (by omega)) HTW.out).mono ?_
        rw [HR.out]
        rintro e w6 ⟨u1, rfl, ho6, hb6⟩
        have HT6 := Lib.hid (HTW.out.below hb6)
        have HB6 := Lib.hid (below_from HBW.out hb6)
        have HD6 : Hid (∀ f ∈ F1, ∀ r ∈ f.rows, ∀ k, r.val.ownBlock = some k → u1.ownBlock ≠ some k) := Lib.hid (fun f hf r hr k hk e => by
          have h1 := ((HTW.out.files f hf).2.2.1 r hr).1.lt k hk
          have h2 := (ho6.lt k e).1
          omega)
        have HLT6 := Lib.hid ho6.lt
        obtain ⟨A1, c1, rfl, hc1, r1, s1⟩ := own_bytes ho6
        have HO6 := Lib.hid ho6
        have cv1 := conv_row c1 r1 s1
        have cv2 := conv_row c (HROW.out.below HB6.out) HA.out
        have hs6 := hb6.size
        clear ho6 hb6 r1 s1
        go_wp2_with fail
        go_loopw [55] (fun i wr => ∃ (k : Nat) (xs : List Int), k ≤ l.length ∧ i = .int .i64 k ∧ xs.length = l.length ∧ wr.ownsRow W1.heap.size 5 1 (.slice A1 l.length c1) l.length (u8V xs) ∧ w6.grownBy wr (Value.slice A1 l.length c1).ownBlock) (fun i _ => l.length - (intOf i).toNat)
        case atStart => exact ⟨0, l, by omega, rfl, rfl, HO6.out, grown_refl _ _⟩
        case round =>
          obtain ⟨k, xs, hk, rfl, hxs, hor, hgr⟩ := hrel
          by_cases hlt : k < l.length
          · obtain ⟨m, rfl, hc0, hf0, hst⟩ := byte_stored hor hxs hgr hlt
            have HST := Lib.hid hst
            clear hst hor hgr
            go_wp2_with fail
            go_roundw
            case rel => exact ⟨k + 1, _, by omega, by go_num, by simpa using hxs, (HST.out _).1, (HST.out _).2⟩
            case measure => simp [intOf]; omega
          · obtain rfl : k = l.length := by omega
            obtain ⟨W2, rfl⟩ : ∃ W2, W2 = wr := ⟨wr, rfl⟩
            have htw := HT6.out.written HO6.out hgr HD6.out
            have hbw : Below w.heap.size w W2 := HB6.out.grown hgr (by have := HB6.out.size; omega) (fun k hk => by have := (HLT6.out k hk).1; omega)
            have HTW2 := Lib.hid htw
            have HBW2 := Lib.hid hbw
            clear htw hbw hor hgr
            go_wp2_with fail
            refine (read_any g b 1 1 ⟨#[97]⟩ F1 W2 (base := w1.heap.size) (by decide) (fun f hf => Nat.le_trans (HS5.out.2 f hf) (by omega)) HTW2.out).mono ?_
            rw [HR.out]
            rintro e w7 ⟨u2, rfl, ho7, hb7⟩
            have HB7 := Lib.hid (below_from HBW2.out hb7)
            obtain ⟨A2, c2, rfl, _, r2, s2⟩ := own_bytes ho7
            have cv3 := conv_row c2 r2 s2
            have cv4 := conv_row c (HROW.out.below HB7.out) HA.out
            clear ho7 hb7 r2 s2
            go_wp2_with fail
            go_ret
            exact ⟨by simp, HB7.out⟩
  · have d1 : decide ((1000 : Int) < (l.length : Int)) = true := by simp; omega
    go_enter Tryd.func8, Tryd.ntmps8
    go_wp2_with fail
    refine HK.out.mono ?_
    rintro e w1 ⟨rfl, hb1⟩
    go_wp2_with fail
    go_ret
    exact ⟨rfl, hb1⟩
end Go.Proofs.YtmamkegcnacbbaaDoor
