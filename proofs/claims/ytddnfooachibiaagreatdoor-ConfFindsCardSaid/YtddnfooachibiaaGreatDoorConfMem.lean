/-
  Modules in memory, for conf and for the reference: rows that are read.
-/
import Derived.Test.YtddnfooachibiaaGreatDoorConfKeep
import Derived.Test.YtddnfooachibiaaGreatDoorFrB
import Derived.Maps.AppendAt
set_option linter.unusedVariables false
set_option linter.unusedSimpArgs false
namespace Go.Proofs.YtddnfooachibiaaGreatDoor
open Go.RowKit Go.Maps Go.WideMaps Go.WideAt
/-- A row that is read: n elements of the cells xs. -/
def RowIn (w : World) (v : Value) (n : Nat) (xs : List Value) : Prop := ∃ A c, v = .slice A n c ∧ n ≤ c ∧ (0 < xs.length → ∃ b off, A = some ⟨b, off, none⟩ ∧ b < w.heap.size ∧ ∀ j (h : j < xs.length), w.cell? ⟨b, off + j, none⟩ = some xs[j])
theorem RowIn.below {w w' : World} {v : Value} {n : Nat} {xs : List Value} (h : RowIn w v n xs) (hb : Below w.heap.size w w') : RowIn w' v n xs := by
  obtain ⟨A, c, e, hc, hr⟩ := h
  refine ⟨A, c, e, hc, fun hn => ?_⟩
  obtain ⟨b, off, e2, hlt, hcell⟩ := hr hn
  exact ⟨b, off, e2, Nat.lt_of_lt_of_le hlt hb.size, fun j hj => cell_below hb (hcell j hj)⟩
theorem RowIn.nil (w : World) (A : Option Addr) (c : Nat) : RowIn w (.slice A 0 c) 0 [] := ⟨A, c, rfl, Nat.zero_le _, fun h => absurd h (by simp)⟩
theorem RowIn.slice {w : World} {v : Value} {n : Nat} {xs : List Value} (h : RowIn w v n xs) : ∃ A c, v = .slice A n c ∧ n ≤ c := by
  obtain ⟨A, c, e, hc, _⟩ := h
  exact ⟨A, c, e, hc⟩
/-- A row of the call's own is read. -/
theorem RowIn.of_own {w : World} {base size n : Nat} {e : TypeId} {v : Value} {xs : List Value} (h : w.ownsRow base e size v n xs) (hs : 0 < size) : RowIn w v n xs := by
  by_cases h0 : 0 < n
  · obtain ⟨g, o, cap, e, hc, _, _, hcell⟩ := (OffRow.of h).form h0
    refine ⟨_, cap, e, hc, fun hx => ⟨g, o, rfl, ?_, fun j hj => ?_⟩⟩
    · exact (h.lt g (by rw [e]; rfl)).2
    · have := hcell j (by rw [← h.1]; exact hj)
      rw [this, List.getElem?_eq_getElem hj]
  · have hn : n = 0 := by omega
    subst hn
    have hx : xs = [] := List.length_eq_zero_iff.1 (by simpa using h.1)
    obtain ⟨A, c, e, hc, _⟩ := (OffRow.of h).slice
    subst hx
    exact ⟨A, c, e, hc, fun h => absurd h (by simp)⟩
theorem RowIn.fr {S : Nat → Prop} {w w' : World} {v : Value} {n : Nat} {xs : List Value} (h : RowIn w v n xs) (hf : FrB S w w') (hne : ∀ b, v.ownBlock = some b → ¬ S b) : RowIn w' v n xs := by
  obtain ⟨A, c, e, hc, hr⟩ := h
  refine ⟨A, c, e, hc, fun hn => ?_⟩
  obtain ⟨b, off, e2, hlt, hcell⟩ := hr hn
  subst e2 e
  refine ⟨b, off, rfl, Nat.lt_of_lt_of_le hlt hf.size, fun j hj => ?_⟩
  have := hf.block b hlt (hne b rfl)
  rw [← hcell j hj]
  unfold World.cell?
  simp only [this]
theorem flatH_get {α : Type} {cells : α → List Value} {n : Nat} (hn : ∀ a, (cells a).length = n) : ∀ (q : List α) (k : Nat) (hk : k < q.length) (j : Nat), j < n → (q.flatMap cells)[k * n + j]? = (cells q[k])[j]?
  | a :: r, 0, _, j, hj => by
    simp only [List.flatMap_cons, List.getElem_cons_zero, Nat.zero_mul, Nat.zero_add]
    rw [List.getElem?_append_left (by rw [hn]; exact hj)]
  | a :: r, k + 1, hk, j, hj => by
    simp only [List.flatMap_cons, List.getElem_cons_succ]
    rw [List.getElem?_append_right (by rw [hn, Nat.succ_mul]; omega)]
    have := flatH_get hn r k (by simpa using hk) j hj
    rw [← this]
    congr 1
    rw [hn, Nat.succ_mul]; omega
def usC (us : List (ByteArray × ByteArray)) : List Value := us.flatMap fun u => [.string u.1, .string u.2]
theorem usC_len : ∀ us, (usC us).length = us.length * 2
  | [] => rfl
  | u :: t => by
    have := usC_len t
    simp only [usC, List.flatMap_cons, List.length_append, List.length_cons, List.length_nil] at this ⊢
    omega
theorem usC_snoc (us : List (ByteArray × ByteArray)) (u : ByteArray × ByteArray) : usC (us ++ [u]) = usC us ++ [.string u.1, .string u.2] := by simp [usC]
theorem usC_get (us : List (ByteArray × ByteArray)) (k : Nat) (hk : k < us.length) : (usC us)[k * 2]? = some (.string us[k].1) ∧ (usC us)[k * 2 + 1]? = some (.string us[k].2) := by
  have h := fun i hi => flatH_get (cells := fun u : ByteArray × ByteArray => [Value.string u.1, Value.string u.2]) (n := 2) (fun _ => rfl) us k hk i hi
  exact ⟨h 0 (by omega), h 1 (by omega)⟩
/-- Users that are read. -/
def UsersIn (w : World) (v : Value) (us : List (ByteArray × ByteArray)) : Prop := RowIn w v us.length (usC us)
/-- The cells of one user. -/
theorem UsersIn.at_ {w : World} {v : Value} {us : List (ByteArray × ByteArray)} (h : UsersIn w v us) : ∃ A c, v = .slice A us.length c ∧ us.length ≤ c ∧ ∀ k (hk : k < us.length), ∃ b off, A = some ⟨b, off, none⟩ ∧ w.cell? ⟨b, off + k * 2, none⟩ = some (.string us[k].1) ∧ w.cell? ⟨b, off + k * 2 + 1, none⟩ = some (.string us[k].2) := by
  obtain ⟨A, c, e, hc, hr⟩ := h
  refine ⟨A, c, e, hc, fun k hk => ?_⟩
  obtain ⟨b, off, e2, _, hcell⟩ := hr (by rw [usC_len]; omega)
  obtain ⟨h1, h2⟩ := usC_get us k hk
  have c1 := hcell (k * 2) (by rw [usC_len]; omega)
  have c2 := hcell (k * 2 + 1) (by rw [usC_len]; omega)
  rw [List.getElem?_eq_getElem (by rw [usC_len]; omega)] at h1 h2
  rw [Option.some.inj h1] at c1
  rw [Option.some.inj h2] at c2
  exact ⟨b, off, e2, c1, c2⟩
/-- A module, and where its users (and, in the reference, the keys that were) lie. -/
structure MRow where
  md : ModC
  uv : Value
def MRow.cells (r : MRow) : List Value := [.string r.md.name, .string r.md.root, .bool r.md.wr, .int .i64 r.md.sl, .int .i64 r.md.qu, r.uv]
theorem MRow.cells_len (r : MRow) : r.cells.length = 6 := rfl
def MRow.val (r : MRow) : Value := .agg #[.string r.md.name, .string r.md.root, .bool r.md.wr, .int .i64 r.md.sl, .int .i64 r.md.qu, r.uv]
def flatM (q : List MRow) : List Value := q.flatMap MRow.cells
theorem flatM_snoc (q : List MRow) (r : MRow) : flatM (q ++ [r]) = flatM q ++ r.cells := by simp [flatM]
theorem flatH_len {α : Type} {f : α → List Value} {n : Nat} (hf : ∀ a, (f a).length = n) : ∀ q : List α, (q.flatMap f).length = q.length * n
  | [] => by simp
  | a :: t => by rw [List.flatMap_cons, List.length_append, hf, flatH_len hf t, List.length_cons, Nat.succ_mul]; omega
theorem flatM_len (q : List MRow) : (flatM q).length = q.length * 6 := flatH_len MRow.cells_len q
/-- Modules that are read. -/
structure ModsIn (w : World) (v : Value) (q : List MRow) : Prop where
  row : RowIn w v q.length (flatM q)
  us : ∀ r ∈ q, UsersIn w r.uv r.md.us
theorem ModsIn.below {w w' : World} {v : Value} {q : List MRow} (h : ModsIn w v q) (hb : Below w.heap.size w w') : ModsIn w' v q := ⟨h.row.below hb, fun r hr => (h.us r hr).below hb⟩
theorem ModsIn.at_ {w : World} {v : Value} {q : List MRow} (h : ModsIn w v q) : ∃ A c, v = .slice A q.length c ∧ q.length ≤ c ∧ ∀ k (hk : k < q.length), ∃ b off, A = some ⟨b, off, none⟩ ∧ w.cell? ⟨b, off + k * 6, none⟩ = some (.string q[k].md.name) ∧ w.cell? ⟨b, off + k * 6 + 1, none⟩ = some (.string q[k].md.root) ∧ w.cell? ⟨b, off + k * 6 + 2, none⟩ = some (.bool q[k].md.wr) ∧ w.cell? ⟨b, off + k * 6 + 3, none⟩ = some (.int .i64 q[k].md.sl) ∧ w.cell? ⟨b, off + k * 6 + 4, none⟩ = some (.int .i64 q[k].md.qu) ∧ w.cell? ⟨b, off + k * 6 + 5, none⟩ = some q[k].uv := by
  obtain ⟨A, c, e, hc, hr⟩ := h.row
  refine ⟨A, c, e, hc, fun k hk => ?_⟩
  obtain ⟨b, off, e2, _, hcell⟩ := hr (by rw [flatM_len]; omega)
  have hh : ∀ i, i < 6 → w.cell? ⟨b, off + (k * 6 + i), none⟩ = (q[k].cells)[i]? := fun i hi => by
    have c1 := hcell (k * 6 + i) (by rw [flatM_len]; omega)
    rw [c1, ← List.getElem?_eq_getElem]
    exact flatH_get MRow.cells_len q k hk i hi
  exact ⟨b, off, e2, hh 0 (by omega), hh 1 (by omega), hh 2 (by omega), hh 3 (by omega), hh 4 (by omega), hh 5 (by omega)⟩
/-- .. in the reference. -/
structure RMRow where
  md : ModC
  uv : Value
  sv : Value
  seen : List ByteArray
def RMRow.cells (r : RMRow) : List Value := [.string r.md.name, .string r.md.root, .bool r.md.wr, .int .i64 r.md.sl, .int .i64 r.md.qu, r.uv, r.sv]
theorem RMRow.cells_len (r : RMRow) : r.cells.length = 7 := rfl
def RMRow.val (r : RMRow) : Value := .agg #[.string r.md.name, .string r.md.root, .bool r.md.wr, .int .i64 r.md.sl, .int .i64 r.md.qu, r.uv, r.sv]
def flatR (q : List RMRow) : List Value := q.flatMap RMRow.cells
theorem flatR_snoc (q : List RMRow) (r : RMRow) : flatR (q ++ [r]) = flatR q ++ r.cells := by simp [flatR]
theorem flatR_len (q : List RMRow) : (flatR q).length = q.length * 7 := flatH_len RMRow.cells_len q
def SeenIn (w : World) (v : Value) (l : List ByteArray) : Prop := RowIn w v l.length (strs l)
structure RModsIn (w : World) (v : Value) (q : List RMRow) : Prop where
  row : RowIn w v q.length (flatR q)
  us : ∀ r ∈ q, UsersIn w r.uv r.md.us
  seen : ∀ r ∈ q, SeenIn w r.sv r.seen
theorem RModsIn.below {w w' : World} {v : Value} {q : List RMRow} (h : RModsIn w v q) (hb : Below w.heap.size w w') : RModsIn w' v q := ⟨h.row.below hb, fun r hr => (h.us r hr).below hb, fun r hr => (h.seen r hr).below hb⟩
theorem RModsIn.at_ {w : World} {v : Value} {q : List RMRow} (h : RModsIn w v q) : ∃ A c, v = .slice A q.length c ∧ q.length ≤ c ∧ ∀ k (hk : k < q.length), ∃ b off, A = some ⟨b, off, none⟩ ∧ w.cell? ⟨b, off + k * 7, none⟩ = some (.string q[k].md.name) ∧ w.cell? ⟨b, off + k * 7 + 1, none⟩ = some (.string q[k].md.root) ∧ w.cell? ⟨b, off + k * 7 + 2, none⟩ = some (.bool q[k].md.wr) ∧ w.cell? ⟨b, off + k * 7 + 3, none⟩ = some (.int .i64 q[k].md.sl) ∧ w.cell? ⟨b, off + k * 7 + 4, none⟩ = some (.int .i64 q[k].md.qu) ∧ w.cell? ⟨b, off + k * 7 + 5, none⟩ = some q[k].uv ∧ w.cell? ⟨b, off + k * 7 + 6, none⟩ = some q[k].sv := by
  obtain ⟨A, c, e, hc, hr⟩ := h.row
  refine ⟨A, c, e, hc, fun k hk => ?_⟩
  obtain ⟨b, off, e2, _, hcell⟩ := hr (by rw [flatR_len]; omega)
  have hh : ∀ i, i < 7 → w.cell? ⟨b, off + (k * 7 + i), none⟩ = (q[k].cells)[i]? := fun i hi => by
    have c1 := hcell (k * 7 + i) (by rw [flatR_len]; omega)
    rw [c1, ← List.getElem?_eq_getElem]
    exact flatH_get RMRow.cells_len q k hk i hi
  exact ⟨b, off, e2, hh 0 (by omega), hh 1 (by omega), hh 2 (by omega), hh 3 (by omega), hh 4 (by omega), hh 5 (by omega), hh 6 (by omega)⟩
theorem textRow_seen {w : World} {v : Value} {l : List ByteArray} (h : SeenIn w v l) : ∃ A c, v = .slice A l.length c ∧ l.length ≤ c ∧ TextRow w A l := by
  obtain ⟨A, c, e, hc, hr⟩ := h
  refine ⟨A, c, e, hc, fun hn => ?_⟩
  obtain ⟨b, off, e2, _, hcell⟩ := hr (by simpa [strs] using hn)
  refine ⟨_, e2, fun k hk => ?_⟩
  have := hcell k (by simpa [strs] using hk)
  rw [Addr.add_lit, this]
  simp [strs]
theorem infoTxt : (Tryz.prog.info? 9).map (fun i => (i.zero, i.size, i.bytes)) = some (some (.string ⟨#[]⟩), 1, 16) := by kernel_rfl
theorem infoUser : (Tryz.prog.info? 54).map (fun i => (i.zero, i.size, i.bytes)) = some (some (.agg #[.string ⟨#[]⟩, .string ⟨#[]⟩]), 2, 32) := by kernel_rfl
theorem infoRUser : (Tryz.prog.info? 83).map (fun i => (i.zero, i.size, i.bytes)) = some (some (.agg #[.string ⟨#[]⟩, .string ⟨#[]⟩]), 2, 32) := by kernel_rfl
theorem infoMod : (Tryz.prog.info? 41).map (fun i => (i.zero, i.size, i.bytes)) = some (some (.agg #[.string ⟨#[]⟩, .string ⟨#[]⟩, .bool false, .int .i64 0, .int .i64 0, .slice none 0 0]), 6, 80) := by kernel_rfl
theorem infoRMod : (Tryz.prog.info? 45).map (fun i => (i.zero, i.size, i.bytes)) = some (some (.agg #[.string ⟨#[]⟩, .string ⟨#[]⟩, .bool false, .int .i64 0, .int .i64 0, .slice none 0 0, .slice none 0 0]), 7, 104) := by kernel_rfl
theorem res_cell_tmp {fn : Func} {a t : Tmp} {ty : TypeId} (h : fn.results = #[.cell a ty, .tmp t]) (tmps : Array Value) (P : Program) (w : World) {ad : Addr} {v : Value} (ha : tmps.getD a undef = .pointer (some ad))
    (hl : (loadVar ty ad).run P w = .ok v w) : (results fn tmps).run P w = .ok (.tuple #[v, tmps.getD t undef]) w := by
  have e : (results fn tmps).run P w = (do let u ← loadVar ty ad; pure (Value.tuple #[u, tmps.getD t undef]) : Sem Value).run P w := by
    have ha' : tmps[a]?.getD undef = .pointer (some ad) := by simpa using ha
    simp [results, h, ha', asAddr]
  rw [e, Sem.run_bind, hl]
  rfl
theorem below_setCells_of (b : Nat) : ∀ (vs : List Value) (o : Nat) (w : World), Below b w (w.setCells b o vs)
  | [], _, w => Below.refl b w
  | v :: r, o, w => ((Below.refl b w).setCell (p := ⟨b, o, none⟩) (Nat.le_refl _) v).trans (below_setCells_of b r (o + 1) _)
theorem load_mod {W : World} {g : Nat} {nm rt : ByteArray} {wb : Bool} {sl qu : Int} {uv : Value} (h : W.heap[g]? = some (Obj.cells #[.string nm, .string rt, .bool wb, .int .i64 sl, .int .i64 qu, uv] 41 (0, 0))) :
    (loadVar 41 ⟨g, 0, none⟩).run Tryz.prog W = .ok (.agg #[.string nm, .string rt, .bool wb, .int .i64 sl, .int .i64 qu, uv]) W := by
  refine run_loadVar_mid W g 0 41 [.string nm, .string rt, .bool wb, .int .i64 sl, .int .i64 qu, uv] _ (fun k u hk => ?_) Tryz.underlying41 (by kernel_rfl) (by kernel_rfl)
  rw [cell_of_row W _ _ _ _ _ h]
  simpa using hk
/-- Six cells are put over six. -/
theorem put_six {w : World} {b : Nat} {t : TypeId} {o0 o1 o2 o3 o4 o5 : Value} (h : w.heap[b]? = some (.cells #[o0, o1, o2, o3, o4, o5] t (0, 0))) (v0 v1 v2 v3 v4 v5 : Value) :
    (w.setCells b 0 [v0, v1, v2, v3, v4, v5]).heap[b]? = some (.cells #[v0, v1, v2, v3, v4, v5] t (0, 0)) := by
  obtain ⟨cur, hn4, hcz, hcl⟩ := YtddnfooachibiaaGreatDoorW.PrintWords.setCells_row [v0, v1, v2, v3, v4, v5] 0 _ _ h (by simp)
  have hcur : cur = #[v0, v1, v2, v3, v4, v5] := by
    apply Array.ext'
    rw [hcl]; rfl
  rw [hcur] at hn4
  exact hn4
end Go.Proofs.YtddnfooachibiaaGreatDoor
