/-
  (*Module).set: what it takes and leaves.
-/
import Derived.Test.YtddnfooachibiaaGreatDoorConfNumC
import Derived.Test.YtddnfooachibiaaGreatDoorPathAny
set_option linter.unusedVariables false
set_option linter.unusedSimpArgs false
namespace Go.Proofs.YtddnfooachibiaaGreatDoor
open Go.RowKit Go.Maps Go.WideMaps Go.WideAt
theorem strKeyed : Keyed Tryz.prog 9 := string_keyed Tryz.underlying9
theorem zeroBool (w : World) : (zeroValue 4).run Tryz.prog w = .ok (.bool false) w := by kernel_rfl
/-- The keys that were, in a map. -/
def SeenAt (w : World) (sb n : Nat) (seen : List ByteArray) : Prop := ∃ m, MapAs w Tryz.prog 9 sb n m ∧ ∀ k : ByteArray, k ≠ kUser → m (.string k.data.toList) = if hasC seen k then some (.bool true) else none
theorem lit_ne {a b : ByteArray} (h : a ≠ b) : (Lit.string a.data.toList) ≠ Lit.string b.data.toList := fun e => by
  injection e with e
  apply h
  cases a; cases b
  congr
  exact Array.toList_inj.1 e
theorem hasC_snoc (l : List ByteArray) (a k : ByteArray) : hasC (l ++ [a]) k = (hasC l k || decide (a = k)) := by simp [hasC]
theorem SeenAt.new (w : World) : SeenAt (w.alloc (.map #[] 0)) w.heap.size 0 [] := ⟨_, mapAs_new w _ _, fun k _ => rfl⟩
theorem SeenAt.look {w : World} {sb n : Nat} {seen : List ByteArray} (h : SeenAt w sb n seen) {k : ByteArray} (hk : k.size ≤ 140737488351232) (hu : k ≠ kUser) : (Instr.lookup 65 (.map (some sb)) (.string k) false).run Tryz.prog w = .ok (.bool (hasC seen k)) w := by
  obtain ⟨m, hm, hs⟩ := h
  rw [hm.look strKeyed Tryz.underlying65 (zeroBool w) (key := .string k) (keyOf_string_mk Tryz.underlying9 (by unfold maxLen; omega)), hs k hu]
  cases hasC seen k <;> rfl
theorem SeenAt.put {w : World} {sb n : Nat} {seen : List ByteArray} (h : SeenAt w sb n seen) {k : ByteArray} (hk : k.size ≤ 140737488351232) (hn : n ≤ 1000000) : ∃ w', (Instr.mapUpdate 65 (.map (some sb)) (.string k) (.bool true)).run Tryz.prog w = .ok () w' ∧ SeenAt w' sb (n + 1) (if k = kUser then seen else seen ++ [k]) ∧ w.grownBy w' (some sb) := by
  obtain ⟨m, hm, hs⟩ := h
  obtain ⟨w', hrun, hm', hg⟩ := hm.store strKeyed Tryz.underlying65 (by unfold maxLen; omega) (key := .string k) (.bool true) (keyOf_string_mk Tryz.underlying9 (by unfold maxLen; omega))
  refine ⟨w', hrun, ⟨_, hm', fun x hx => ?_⟩, hg⟩
  by_cases e : x = k
  · subst e
    rw [upd_same (by simp [IsKeyLit]), if_neg hx, hasC_snoc]
    simp
  · rw [upd_other (lit_ne e), hs x hx]
    have h2 : hasC (if k = kUser then seen else seen ++ [k]) x = hasC seen x := by
      by_cases hku : k = kUser
      · rw [if_pos hku]
      · rw [if_neg hku, hasC_snoc, decide_eq_false (fun h => e h.symm), Bool.or_false]
    rw [h2]
theorem SeenAt.isMap {w : World} {sb n : Nat} {seen : List ByteArray} (h : SeenAt w sb n seen) : ∃ es clock, w.heap[sb]? = some (.map es clock) := h.elim fun m hm => hm.1.isMap
theorem SeenAt.below {w w' : World} {sb n : Nat} {seen : List ByteArray} (h : SeenAt w sb n seen) (hb : Below w.heap.size w w') : SeenAt w' sb n seen := h.elim fun m hm => ⟨m, hm.1.below hb, hm.2⟩
theorem SeenAt.grown {w w' : World} {sb n : Nat} {seen : List ByteArray} {row : Option Nat} (h : SeenAt w sb n seen) (hg : w.grownBy w' row) (hne : some sb ≠ row) : SeenAt w' sb n seen := h.elim fun m hm => ⟨m, hm.1.grown hg hne, hm.2⟩
/-- The last of the modules, its users, and the keys that were. -/
structure SetIn (w : World) (base bl g cap : Nat) (pre : List MRow) (r : MRow) (sb n : Nat) (seen : List ByteArray) : Prop where
  row : w.ownsRow base 41 6 (.slice (some ⟨g, 0, none⟩) (pre.length + 1) cap) (pre.length + 1) (flatM (pre ++ [r]))
  us : w.ownsRow bl 54 2 r.uv r.md.us.length (usC r.md.us)
  seen : SeenAt w sb n seen
  le : bl ≤ w.heap.size
  hbb : base ≤ bl
  hsb : base ≤ sb
theorem SetIn.below {w w' : World} {base bl g cap : Nat} {pre : List MRow} {r : MRow} {sb n : Nat} {seen : List ByteArray} (h : SetIn w base bl g cap pre r sb n seen) (hb : Below w.heap.size w w') : SetIn w' base bl g cap pre r sb n seen :=
  ⟨own_stay h.row hb, own_stay h.us hb, h.seen.below hb, Nat.le_trans h.le hb.size, h.hbb, h.hsb⟩
theorem SetIn.mapped {w w' : World} {base bl g cap : Nat} {pre : List MRow} {r : MRow} {sb n n' : Nat} {seen seen' : List ByteArray} (h : SetIn w base bl g cap pre r sb n seen) (hg : w.grownBy w' (some sb)) (hs : SeenAt w' sb n' seen') : SetIn w' base bl g cap pre r sb n' seen' := by
  obtain ⟨es, ck, hm⟩ := h.seen.isMap
  exact ⟨own_mapped h.row hm hg, own_mapped h.us hm hg, hs, Nat.le_trans h.le hg.size, h.hbb, h.hsb⟩
theorem SetIn.cells {w : World} {base bl g cap : Nat} {pre : List MRow} {r : MRow} {sb n : Nat} {seen : List ByteArray} (h : SetIn w base bl g cap pre r sb n seen) (j : Nat) (hj : j < 6) : w.cell? ⟨g, pre.length * 6 + j, none⟩ = r.cells[j]? := by
  rw [h.row.cellAt (pre.length * 6 + j) (by omega)]
  have := flatH_get MRow.cells_len (pre ++ [r]) pre.length (by simp) j hj
  rw [flatM, this]
  simp
theorem row_set (pre : List MRow) (r : MRow) (j : Nat) (u : Value) : (flatM (pre ++ [r])).set (pre.length * 6 + j) u = flatM pre ++ r.cells.set j u := by
  rw [flatM_snoc, List.set_append_right _ _ (by rw [flatM_len]; omega), flatM_len]
  congr 2
  omega
/-- A cell of the module is put. -/
theorem SetIn.stored {w : World} {base bl g cap : Nat} {pre : List MRow} {r r' : MRow} {sb n : Nat} {seen : List ByteArray} (h : SetIn w base bl g cap pre r sb n seen) (j : Nat) (u : Value) (hr : r'.cells = r.cells.set j u) (hu : w.ownsRow bl 54 2 r'.uv r'.md.us.length (usC r'.md.us)) :
    SetIn (w.setCell ⟨g, pre.length * 6 + j, none⟩ u) base bl g cap pre r' sb n seen := by
  obtain ⟨h1, h2⟩ := h.row.stored (pre.length * 6 + j) u
  rw [row_set, ← hr, ← flatM_snoc] at h1
  obtain ⟨es, ck, hm⟩ := h.seen.isMap
  refine ⟨h1, (OffRow.of h.row).other hu (by decide) h2, h.seen.grown h2 ((OffRow.of h.row).ne hm), Nat.le_trans h.le h2.size, h.hbb, h.hsb⟩
/-- What holds of what was there before. -/
theorem SetIn.kept {w0 w w' : World} {base bl g cap : Nat} {pre : List MRow} {r : MRow} {sb n : Nat} {seen : List ByteArray} {S : Nat → Prop} (h : SetIn w base bl g cap pre r sb n seen) (hS : ∀ k, S k → k = g ∨ k = sb ∨ r.uv.ownBlock = some k) (hf : FrB S w w') (hb : Below base w0 w) : Below base w0 w' :=
  hb.trans (hf.below (Nat.le_trans h.hbb h.le) (fun k hk => by
    rcases hS k hk with rfl | rfl | e
    · exact (h.row.lt k rfl).1
    · exact h.hsb
    · exact Nat.le_trans h.hbb (h.us.lt k e).1))
def SetS (g sb : Nat) (uv : Value) (k : Nat) : Prop := k = g ∨ k = sb ∨ uv.ownBlock = some k
theorem fr_map {g sb : Nat} {uv : Value} {w w' : World} (h : w.grownBy w' (some sb)) : FrB (SetS g sb uv) w w' := FrB.of_grown h (fun b hb _ => by injection hb with hb; exact .inr (.inl hb.symm))
theorem fr_cell {g sb j : Nat} {uv u : Value} (w : World) : FrB (SetS g sb uv) w (w.setCell ⟨g, j, none⟩ u) := FrB.set u (.inl rfl)
theorem fr_on {S : Nat → Prop} {w w1 w2 : World} (h1 : FrB S w w1) (h2 : FrB S w1 w2) : FrB S w w2 := h1.trans h2 (fun k _ h => h)
/-- What set comes to. -/
def MSetPost (base bl g cap : Nat) (pre : List MRow) (r : MRow) (sb n : Nat) (seen : List ByteArray) (k v : ByteArray) (w : World) (e : Ending) (w' : World) : Prop :=
  FrB (SetS g sb r.uv) w w' ∧ ((∃ x, setC r.md seen k v = .error x ∧ x ≠ 0 ∧ e = .returned (.int .i64 x)) ∨
    (∃ m' s' uv', setC r.md seen k v = .ok (m', s') ∧ e = .returned (.int .i64 0) ∧ SetIn w' base bl g cap pre ⟨m', uv'⟩ sb (n + 1) s' ∧ ∀ b, uv'.ownBlock = some b → r.uv.ownBlock = some b ∨ w.heap.size ≤ b))
theorem txt_eq {k : ByteArray} {l : List UInt8} (h : k = bA l) : (k.toList == l) = true := by
  rw [beq_iff_eq, ByteArray.toList_eq, h]; rfl
theorem txt_ne {k : ByteArray} {l : List UInt8} (h : k ≠ bA l) : (k.toList == l) = false := by
  rw [beq_eq_false_iff_ne, ByteArray.toList_eq]
  exact fun e => h (bA_eq.2 e.symm).symm
theorem txt_nb {k : ByteArray} {l : List UInt8} (h : k = bA l) : (k.toList != l) = false := by rw [bne, txt_eq h]; rfl
theorem txt_nn {k : ByteArray} {l : List UInt8} (h : k ≠ bA l) : (k.toList != l) = true := by rw [bne, txt_ne h]; rfl
theorem setC_seen {m : ModC} {seen : List ByteArray} {k v : ByteArray} (hu : k ≠ kUser) (h : hasC seen k = true) : setC m seen k v = .error 5 := by rw [setC, if_neg hu, if_pos h]
theorem setC_put {m : ModC} {seen : List ByteArray} {k v : ByteArray} (hu : k ≠ kUser) (h : hasC seen k = false) : setC m seen k v = (putC m k v).map fun m => (m, seen ++ [k]) := by rw [setC, if_neg hu, if_neg (by simp [h])]
theorem setC_bad {m : ModC} {seen : List ByteArray} {k v : ByteArray} {x : Int} (hu : k ≠ kUser) (h : hasC seen k = false) (hp : putC m k v = .error x) : setC m seen k v = .error x := by rw [setC_put hu h, hp]; rfl
theorem setC_ok {m m' : ModC} {seen : List ByteArray} {k v : ByteArray} (hu : k ≠ kUser) (h : hasC seen k = false) (hp : putC m k v = .ok m') : setC m seen k v = .ok (m', seen ++ [k]) := by rw [setC_put hu h, hp]; rfl
set_option maxRecDepth 100000 in
set_option maxHeartbeats 1000000 in
/-- A key that was. -/
theorem set_seen (base bl g cap : Nat) (pre : List MRow) (r : MRow) (sb n : Nat) (seen : List ByteArray) (k v : ByteArray) (w : World) (hk : k.size ≤ 140737488351232) (hin : SetIn w base bl g cap pre r sb n seen) (hu : k ≠ kUser) (hh : hasC seen k = true) :
    Calls Tryz.prog 26 #[.pointer (some ⟨g, pre.length * 6, none⟩), .string k, .string v, .map (some sb)] w (MSetPost base bl g cap pre r sb n seen k v w) := by
  have hl := hin.seen.look hk hu
  rw [hh] at hl
  have bu := txt_ne (l := [117, 115, 101, 114]) hu
  have bu' := txt_nn (l := [117, 115, 101, 114]) hu
  have HR := Lib.hid (setC_seen (m := r.md) (v := v) hu hh)
  clear hin hu hh
  go_enter Tryz.func26, Tryz.ntmps26
  go_wp2_with fail
  go_ret
  exact ⟨FrB.refl _ _, .inl ⟨5, HR.out, by decide, rfl⟩⟩
set_option maxRecDepth 100000 in
set_option maxHeartbeats 1000000 in
/-- root. -/
theorem set_root (w0 : World) (bl g cap : Nat) (pre : List MRow) (r : MRow) (sb n : Nat) (seen : List ByteArray) (k v : ByteArray) (w : World) (hk : k.size ≤ 140737488351232) (hv : v.size ≤ 140737488351232) (hn : n ≤ 1000000) (hin : SetIn w w0.heap.size bl g cap pre r sb n seen) (hb0 : Below w0.heap.size w0 w) (hg : EnvC w0) (hu : k ≠ kUser) (hh : hasC seen k = false) (hkr : k = kRoot) :
    Calls Tryz.prog 26 #[.pointer (some ⟨g, pre.length * 6, none⟩), .string k, .string v, .map (some sb)] w (MSetPost w0.heap.size bl g cap pre r sb n seen k v w) := by
  have hl := hin.seen.look hk hu
  rw [hh] at hl
  have bu := txt_ne (l := [117, 115, 101, 114]) hu
  have bu' := txt_nn (l := [117, 115, 101, 114]) hu
  obtain ⟨w1, hrun1, hs1, hg1⟩ := hin.seen.put hk hn
  rw [if_neg hu] at hs1
  have HIN1 := Lib.hid (hin.mapped hg1 hs1)
  have HF1 := Lib.hid (fr_map (g := g) (uv := r.uv) hg1)
  have HB1 := Lib.hid (hin.kept (S := SetS g sb r.uv) (fun k h => h) HF1.out hb0)
  have br := txt_eq (l := [114, 111, 111, 116]) hkr
  have c1 : w1.cell? ⟨g, pre.length * 6 + 1, none⟩ = some (.string r.md.root) := HIN1.out.cells 1 (by decide)
  have f1 := HIN1.out.row.frozenAt (pre.length * 6 + 1)
  have HIN2 := Lib.hid (HIN1.out.stored (r' := ⟨{ r.md with root := v }, r.uv⟩) 1 (.string v) rfl HIN1.out.us)
  have HF2 := Lib.hid (fr_on HF1.out (fr_cell (j := pre.length * 6 + 1) (u := .string v) w1))
  have HG := Lib.hid ((hg.below (hin.kept (S := SetS g sb r.uv) (fun k h => h) HF2.out hb0)).env.ml)
  have HPC := Lib.hid (check_any v (w1.setCell ⟨g, pre.length * 6 + 1, none⟩ (.string v)) hv HG.out)
  have HU := Lib.hid hu
  have HH := Lib.hid hh
  have HK := Lib.hid hkr
  clear hin hb0 hg hu hh hkr hs1 hg1
  go_enter Tryz.func26, Tryz.ntmps26
  go_wp2_with fail
  refine HPC.out.mono ?_
  rintro e w3 ⟨er, rfl, hev, hb3⟩
  have HF3 := Lib.hid (fr_on HF2.out (FrB.of_below hb3))
  have HIN3 := Lib.hid (HIN2.out.below hb3)
  cases hcb : checkB v with
  | some p =>
    rw [checkG_of hcb] at hev
    obtain ⟨bf, rfl, _⟩ := hev
    have HR : Hid (setC r.md seen k v = .error 90) := Lib.hid (setC_bad HU.out HH.out (by rw [putC, if_pos HK.out, hcb]; rfl))
    clear hb3 hcb
    go_wp2_with fail
    go_ret
    exact ⟨HF3.out, .inl ⟨90, HR.out, by decide, rfl⟩⟩
  | none =>
    rw [checkG_none hcb] at hev
    obtain rfl : er = .nilIface := hev
    have HR : Hid (setC r.md seen k v = .ok ({ r.md with root := v }, seen ++ [k])) := Lib.hid (setC_ok HU.out HH.out (by rw [putC, if_pos HK.out, hcb]; rfl))
    clear hb3 hcb
    go_wp2_with fail
    go_ret
    exact ⟨HF3.out, .inr ⟨_, _, r.uv, HR.out, rfl, HIN3.out, fun b h => .inl h⟩⟩
set_option maxRecDepth 100000 in
set_option maxHeartbeats 1000000 in
/-- write. -/
theorem set_write (w0 : World) (bl g cap : Nat) (pre : List MRow) (r : MRow) (sb n : Nat) (seen : List ByteArray) (k v : ByteArray) (w : World) (hk : k.size ≤ 140737488351232) (hv : v.size ≤ 140737488351232) (hn : n ≤ 1000000) (hin : SetIn w w0.heap.size bl g cap pre r sb n seen) (hb0 : Below w0.heap.size w0 w) (hg : EnvC w0) (hu : k ≠ kUser) (hh : hasC seen k = false) (hkr : k ≠ kRoot) (hkw : k = kWrite) :
    Calls Tryz.prog 26 #[.pointer (some ⟨g, pre.length * 6, none⟩), .string k, .string v, .map (some sb)] w (MSetPost w0.heap.size bl g cap pre r sb n seen k v w) := by
  have hl := hin.seen.look hk hu
  rw [hh] at hl
  have bu := txt_ne (l := [117, 115, 101, 114]) hu
  have bu' := txt_nn (l := [117, 115, 101, 114]) hu
  obtain ⟨w1, hrun1, hs1, hg1⟩ := hin.seen.put hk hn
  rw [if_neg hu] at hs1
  have HIN1 := Lib.hid (hin.mapped hg1 hs1)
  have HF1 := Lib.hid (fr_map (g := g) (uv := r.uv) hg1)
  have HB1 := Lib.hid (hin.kept (S := SetS g sb r.uv) (fun k h => h) HF1.out hb0)
  have br := txt_ne (l := [114, 111, 111, 116]) hkr
  have bw := txt_eq (l := [119, 114, 105, 116, 101]) hkw
  have c2 : w1.cell? ⟨g, pre.length * 6 + 2, none⟩ = some (.bool r.md.wr) := HIN1.out.cells 2 (by decide)
  have f2 := HIN1.out.row.frozenAt (pre.length * 6 + 2)
  have HIN2 := Lib.hid (HIN1.out.stored (r' := ⟨{ r.md with wr := true }, r.uv⟩) 2 (.bool true) rfl HIN1.out.us)
  have HF2 := Lib.hid (fr_on HF1.out (fr_cell (j := pre.length * 6 + 2) (u := .bool true) w1))
  have HP : Hid (∀ x, putC r.md k v = x → ∀ m', x = .ok m' → setC r.md seen k v = .ok (m', seen ++ [k])) := Lib.hid fun x h m' e => setC_ok hu hh (h.trans e)
  have HPB : Hid (putC r.md k v = .error 130 → setC r.md seen k v = .error 130) := Lib.hid fun h => setC_bad hu hh h
  have HW : Hid (putC r.md k v = if v = vYes ∨ v = vTrue then .ok { r.md with wr := true } else if v = vNo ∨ v = vFalse then .ok r.md else .error 130) := Lib.hid (by rw [putC, if_neg hkr, if_pos hkw])
  clear hin hb0 hg hu hh hkr hkw hs1 hg1
  by_cases e1 : v = vYes
  · have b1 := txt_eq (l := [121, 101, 115]) e1
    have HR := Lib.hid (HP.out _ HW.out _ (if_pos (.inl e1)))
    clear e1
    go_enter Tryz.func26, Tryz.ntmps26
    go_wp2_with fail
    go_ret
    exact ⟨HF2.out, .inr ⟨_, _, r.uv, HR.out, rfl, HIN2.out, fun b h => .inl h⟩⟩
  · have b1 := txt_ne (l := [121, 101, 115]) e1
    by_cases e2 : v = vTrue
    · have b2 := txt_eq (l := [116, 114, 117, 101]) e2
      have HR := Lib.hid (HP.out _ HW.out _ (if_pos (.inr e2)))
      clear e1 e2
      go_enter Tryz.func26, Tryz.ntmps26
      go_wp2_with fail
      go_ret
      exact ⟨HF2.out, .inr ⟨_, _, r.uv, HR.out, rfl, HIN2.out, fun b h => .inl h⟩⟩
    · have b2 := txt_ne (l := [116, 114, 117, 101]) e2
      have HW2 := Lib.hid (HW.out.trans (if_neg (fun h => h.elim e1 e2)))
      by_cases e3 : v = vNo
      · have b3 := txt_eq (l := [110, 111]) e3
        have HR := Lib.hid (HP.out _ HW2.out _ (if_pos (.inl e3)))
        clear e1 e2 e3
        go_enter Tryz.func26, Tryz.ntmps26
        go_wp2_with fail
        go_ret
        exact ⟨HF1.out, .inr ⟨_, _, r.uv, HR.out, rfl, HIN1.out, fun b h => .inl h⟩⟩
      · have b3 := txt_ne (l := [110, 111]) e3
        by_cases e4 : v = vFalse
        · have b4 := txt_eq (l := [102, 97, 108, 115, 101]) e4
          have HR := Lib.hid (HP.out _ HW2.out _ (if_pos (.inr e4)))
          clear e1 e2 e3 e4
          go_enter Tryz.func26, Tryz.ntmps26
          go_wp2_with fail
          go_ret
          exact ⟨HF1.out, .inr ⟨_, _, r.uv, HR.out, rfl, HIN1.out, fun b h => .inl h⟩⟩
        · have b4 := txt_ne (l := [102, 97, 108, 115, 101]) e4
          have HR := Lib.hid (HPB.out (HW2.out.trans (if_neg (fun h => h.elim e3 e4))))
          clear e1 e2 e3 e4
          go_enter Tryz.func26, Tryz.ntmps26
          go_wp2_with fail
          go_ret
          exact ⟨HF1.out, .inl ⟨130, HR.out, by decide, rfl⟩⟩
set_option maxRecDepth 100000 in
set_option maxHeartbeats 1000000 in
/-- slots. -/
theorem set_slots (w0 : World) (bl g cap : Nat) (pre : List MRow) (r : MRow) (sb n : Nat) (seen : List ByteArray) (k v : ByteArray) (w : World) (hk : k.size ≤ 140737488351232) (hv : v.size ≤ 140737488351232) (hn : n ≤ 1000000) (hin : SetIn w w0.heap.size bl g cap pre r sb n seen) (hb0 : Below w0.heap.size w0 w) (hg : EnvC w0) (hu : k ≠ kUser) (hh : hasC seen k = false) (hkr : k ≠ kRoot) (hkw : k ≠ kWrite) (hks : k = kSlots) :
    Calls Tryz.prog 26 #[.pointer (some ⟨g, pre.length * 6, none⟩), .string k, .string v, .map (some sb)] w (MSetPost w0.heap.size bl g cap pre r sb n seen k v w) := by
  have hl := hin.seen.look hk hu
  rw [hh] at hl
  have bu := txt_ne (l := [117, 115, 101, 114]) hu
  have bu' := txt_nn (l := [117, 115, 101, 114]) hu
  obtain ⟨w1, hrun1, hs1, hg1⟩ := hin.seen.put hk hn
  rw [if_neg hu] at hs1
  have HIN1 := Lib.hid (hin.mapped hg1 hs1)
  have HF1 := Lib.hid (fr_map (g := g) (uv := r.uv) hg1)
  have HB1 := Lib.hid (hin.kept (S := SetS g sb r.uv) (fun k h => h) HF1.out hb0)
  have br := txt_ne (l := [114, 111, 111, 116]) hkr
  have bw := txt_ne (l := [119, 114, 105, 116, 101]) hkw
  have bs := txt_eq (l := [115, 108, 111, 116, 115]) hks
  have HG := Lib.hid (hg.below HB1.out)
  have HN := Lib.hid (cnumber_any v 1 16 w1 (by decide) (by decide) (by omega) HG.out)
  have HP : Hid (∀ m', putC r.md k v = .ok m' → setC r.md seen k v = .ok (m', seen ++ [k])) := Lib.hid fun m' e => setC_ok hu hh e
  have HPB : Hid (putC r.md k v = .error 130 → setC r.md seen k v = .error 130) := Lib.hid fun h => setC_bad hu hh h
  have HW : Hid (putC r.md k v = if 1 ≤ numB v ∧ numB v ≤ 16 then .ok { r.md with sl := numB v } else .error 130) := Lib.hid (by rw [putC, if_neg hkr, if_neg hkw, if_pos hks])
  clear hin hb0 hg hu hh hkr hkw hks hs1 hg1
  go_enter Tryz.func26, Tryz.ntmps26
  go_wp2_with fail
  refine HN.out.mono ?_
  rintro e w2 ⟨x, rfl, hx, hb2⟩
  have HIN2 := Lib.hid (HIN1.out.below hb2)
  have c3 : w2.cell? ⟨g, pre.length * 6 + 3, none⟩ = some (.int .i64 r.md.sl) := HIN2.out.cells 3 (by decide)
  have f3 := HIN2.out.row.frozenAt (pre.length * 6 + 3)
  have HIN3 := Lib.hid (HIN2.out.stored (r' := ⟨{ r.md with sl := x }, r.uv⟩) 3 (.int .i64 x) rfl HIN2.out.us)
  have HF3 := Lib.hid (fr_on (fr_on HF1.out (FrB.of_below hb2)) (fr_cell (j := pre.length * 6 + 3) (u := .int .i64 x) w2))
  by_cases hd : 1 ≤ numB v ∧ numB v ≤ 16
  · obtain rfl := hx hd.1 hd.2
    rw [decide_eq_true hd]
    have HR := Lib.hid (HP.out _ (HW.out.trans (if_pos hd)))
    clear hx hb2 hd
    go_wp2_with fail
    go_ret
    exact ⟨HF3.out, .inr ⟨_, _, r.uv, HR.out, rfl, HIN3.out, fun b h => .inl h⟩⟩
  · rw [decide_eq_false hd]
    have HR := Lib.hid (HPB.out (HW.out.trans (if_neg hd)))
    clear hx hb2 hd
    go_wp2_with fail
    go_ret
    exact ⟨HF3.out, .inl ⟨130, HR.out, by decide, rfl⟩⟩
set_option maxRecDepth 100000 in
set_option maxHeartbeats 1000000 in
/-- quota. -/
theorem set_quota (w0 : World) (bl g cap : Nat) (pre : List MRow) (r : MRow) (sb n : Nat) (seen : List ByteArray) (k v : ByteArray) (w : World) (hk : k.size ≤ 140737488351232) (hv : v.size ≤ 140737488351232) (hn : n ≤ 1000000) (hin : SetIn w w0.heap.size bl g cap pre r sb n seen) (hb0 : Below w0.heap.size w0 w) (hg : EnvC w0) (hu : k ≠ kUser) (hh : hasC seen k = false) (hkr : k ≠ kRoot) (hkw : k ≠ kWrite) (hks : k ≠ kSlots) (hkq : k = kQuota) :
    Calls Tryz.prog 26 #[.pointer (some ⟨g, pre.length * 6, none⟩), .string k, .string v, .map (some sb)] w (MSetPost w0.heap.size bl g cap pre r sb n seen k v w) := by
  have hl := hin.seen.look hk hu
  rw [hh] at hl
  have bu := txt_ne (l := [117, 115, 101, 114]) hu
  have bu' := txt_nn (l := [117, 115, 101, 114]) hu
  obtain ⟨w1, hrun1, hs1, hg1⟩ := hin.seen.put hk hn
  rw [if_neg hu] at hs1
  have HIN1 := Lib.hid (hin.mapped hg1 hs1)
  have HF1 := Lib.hid (fr_map (g := g) (uv := r.uv) hg1)
  have HB1 := Lib.hid (hin.kept (S := SetS g sb r.uv) (fun k h => h) HF1.out hb0)
  have br := txt_ne (l := [114, 111, 111, 116]) hkr
  have bw := txt_ne (l := [119, 114, 105, 116, 101]) hkw
  have bs := txt_ne (l := [115, 108, 111, 116, 115]) hks
  have bq := txt_eq (l := [113, 117, 111, 116, 97]) hkq
  have HG := Lib.hid (hg.below HB1.out)
  have HN := Lib.hid (cnumber_any v 0 262144 w1 (by decide) (by decide) (by omega) HG.out)
  have HP : Hid (∀ m', putC r.md k v = .ok m' → setC r.md seen k v = .ok (m', seen ++ [k])) := Lib.hid fun m' e => setC_ok hu hh e
  have HPB : Hid (putC r.md k v = .error 130 → setC r.md seen k v = .error 130) := Lib.hid fun h => setC_bad hu hh h
  have HW : Hid (putC r.md k v = if 0 ≤ numB v ∧ numB v ≤ 262144 then .ok { r.md with qu := numB v } else .error 130) := Lib.hid (by rw [putC, if_neg hkr, if_neg hkw, if_neg hks, if_pos hkq])
  clear hin hb0 hg hu hh hkr hkw hks hkq hs1 hg1
  go_enter Tryz.func26, Tryz.ntmps26
  go_wp2_with fail
  refine HN.out.mono ?_
  rintro e w2 ⟨x, rfl, hx, hb2⟩
  have HIN2 := Lib.hid (HIN1.out.below hb2)
  have c3 : w2.cell? ⟨g, pre.length * 6 + 4, none⟩ = some (.int .i64 r.md.qu) := HIN2.out.cells 4 (by decide)
  have f3 := HIN2.out.row.frozenAt (pre.length * 6 + 4)
  have HIN3 := Lib.hid (HIN2.out.stored (r' := ⟨{ r.md with qu := x }, r.uv⟩) 4 (.int .i64 x) rfl HIN2.out.us)
  have HF3 := Lib.hid (fr_on (fr_on HF1.out (FrB.of_below hb2)) (fr_cell (j := pre.length * 6 + 4) (u := .int .i64 x) w2))
  by_cases hd : 0 ≤ numB v ∧ numB v ≤ 262144
  · obtain rfl := hx hd.1 hd.2
    rw [decide_eq_true hd]
    have HR := Lib.hid (HP.out _ (HW.out.trans (if_pos hd)))
    clear hx hb2 hd
    go_wp2_with fail
    go_ret
    exact ⟨HF3.out, .inr ⟨_, _, r.uv, HR.out, rfl, HIN3.out, fun b h => .inl h⟩⟩
  · rw [decide_eq_false hd]
    have HR := Lib.hid (HPB.out (HW.out.trans (if_neg hd)))
    clear hx hb2 hd
    go_wp2_with fail
    go_ret
    exact ⟨HF3.out, .inl ⟨130, HR.out, by decide, rfl⟩⟩
set_option maxRecDepth 100000 in
set_option maxHeartbeats 1000000 in
/-- Any other key. -/
theorem set_other (w0 : World) (bl g cap : Nat) (pre : List MRow) (r : MRow) (sb n : Nat) (seen : List ByteArray) (k v : ByteArray) (w : World) (hk : k.size ≤ 140737488351232) (hv : v.size ≤ 140737488351232) (hn : n ≤ 1000000) (hin : SetIn w w0.heap.size bl g cap pre r sb n seen) (hb0 : Below w0.heap.size w0 w) (hg : EnvC w0) (hu : k ≠ kUser) (hh : hasC seen k = false) (hkr : k ≠ kRoot) (hkw : k ≠ kWrite) (hks : k ≠ kSlots) (hkq : k ≠ kQuota) :
    Calls Tryz.prog 26 #[.pointer (some ⟨g, pre.length * 6, none⟩), .string k, .string v, .map (some sb)] w (MSetPost w0.heap.size bl g cap pre r sb n seen k v w) := by
  have hl := hin.seen.look hk hu
  rw [hh] at hl
  have bu := txt_ne (l := [117, 115, 101, 114]) hu
  have bu' := txt_nn (l := [117, 115, 101, 114]) hu
  obtain ⟨w1, hrun1, hs1, hg1⟩ := hin.seen.put hk hn
  rw [if_neg hu] at hs1
  have HIN1 := Lib.hid (hin.mapped hg1 hs1)
  have HF1 := Lib.hid (fr_map (g := g) (uv := r.uv) hg1)
  have HB1 := Lib.hid (hin.kept (S := SetS g sb r.uv) (fun k h => h) HF1.out hb0)
  have br := txt_ne (l := [114, 111, 111, 116]) hkr
  have bw := txt_ne (l := [119, 114, 105, 116, 101]) hkw
  have bs := txt_ne (l := [115, 108, 111, 116, 115]) hks
  have bq := txt_ne (l := [113, 117, 111, 116, 97]) hkq
  have HR := Lib.hid (setC_bad (m := r.md) (v := v) (x := 130) hu hh (by rw [putC, if_neg hkr, if_neg hkw, if_neg hks, if_neg hkq]))
  clear hin hb0 hg hu hh hkr hkw hks hkq hs1 hg1
  go_enter Tryz.func26, Tryz.ntmps26
  go_wp2_with fail
  go_ret
  exact ⟨HF1.out, .inl ⟨130, HR.out, by decide, rfl⟩⟩
end Go.Proofs.YtddnfooachibiaaGreatDoor
