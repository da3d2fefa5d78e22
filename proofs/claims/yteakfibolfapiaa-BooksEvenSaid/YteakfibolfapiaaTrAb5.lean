/- The executor is sound: loads. -/
import Derived.Test.YteakfibolfapiaaTrAb4
import Derived.Laws.Cells
import Derived.Laws.CopyRow
import Derived.Laws.IdiomStrings
namespace Go.Proofs.Yteakfibolfapiaa.Ab
open Go.RowKit Go.Sort
set_option linter.unusedVariables false
set_option linter.unusedSimpArgs false

/-- The types that a run is told are the program's. -/
def TyIs (P : Program) (x : TI) (t : Nat) : Prop :=
  ∃ i d, P.info? t = some i ∧ P.underlying t = some d ∧ x.u = tuOf (some d) ∧ x.size = i.size ∧ x.bytes = i.bytes ∧ (x.zero = none ∨ x.zero = i.zero.bind zeroD) ∧ ((∃ k, x.u = .int k) → i.comparable = true)
/-- A zero value is an aggregate where its type is one. -/
def zshape (P : Program) (t : Nat) : Bool := match (P.info? t).bind (·.zero) with
  | some (.agg _) => isAggT (tiOf P t)
  | some _ => !isAggT (tiOf P t)
  | none => true
/-- What is asked of a struct that is compared. -/
def StructEq (P : Program) (T : Nat → TI) (t : Nat) : Prop := ∀ (neq : Bool) (l l' : List D) (X Y : Operand) (xs ys : Array Value) (w u : World) (M : Nat → Prop), ksOk l (kinds T 8 t) = true → ksOk l' (kinds T 8 t) = true → RelDs w M l xs.toList → RelDs w M l' ys.toList →
  ((do eqGuard (if neq then .neq else .eql) t X Y (.agg xs) (.agg ys); binOp (if neq then .neq else .eql) t (.agg xs) (.agg ys) : Sem Value)).run P u = .ok (.bool (if neq then !(deqL l l') else deqL l l')) u
structure TysOK (P : Program) (T : Nat → TI) : Prop where
  tys : ∀ t, ((T t).u = .other ∧ (T t).size = 0) ∨ TyIs P (T t) t
  zsh : ∀ t, (T t).size ≠ 0 → zshape P t = true ∧ isAggT (T t) = isAggT (tiOf P t)
  seq : ∀ t, eqT t = true → StructEq P T t
  globs : ∀ t g w, globs t g = true → J w → ∃ v, (Instr.loadAt t (.pointer (some ⟨g, 0, none⟩))).run P w = .ok v w
section
variable {P : Program} {T : Nat → TI} {ρ : Env} {w : World} {M : Nat → Prop}
theorem TysOK.of_u (hT : TysOK P T) {t : Nat} {u : TU} (h : (T t).u = u) (hu : u ≠ .other) : TyIs P (T t) t := by
  rcases hT.tys t with ⟨h1, -⟩ | h1
  · exact absurd (h.symm.trans h1) hu
  · exact h1
theorem TysOK.of_size (hT : TysOK P T) {t : Nat} (h : (T t).size ≠ 0) : TyIs P (T t) t := by
  rcases hT.tys t with ⟨-, h1⟩ | h1
  · exact absurd h1 h
  · exact h1
theorem TysOK.slice (hT : TysOK P T) {t e : Nat} (h : (T t).u = .slice e) : P.underlying t = some (.slice e) := by
  obtain ⟨i, d, -, hd, hu, -⟩ := hT.of_u h (by simp)
  rw [h] at hu
  cases d <;> simp [tuOf] at hu
  subst hu; exact hd
theorem TysOK.int (hT : TysOK P T) {t : Nat} {k : IntKind} (h : (T t).u = .int k) : P.underlying t = some (.int k) := by
  obtain ⟨i, d, -, hd, hu, -⟩ := hT.of_u h (by simp)
  rw [h] at hu
  cases d <;> simp [tuOf] at hu
  subst hu; exact hd
theorem TysOK.str (hT : TysOK P T) {t : Nat} (h : (T t).u = .str) : P.underlying t = some .string := by
  obtain ⟨i, d, -, hd, hu, -⟩ := hT.of_u h (by simp)
  rw [h] at hu
  cases d <;> simp [tuOf] at hu
  exact hd
theorem TysOK.bool (hT : TysOK P T) {t : Nat} (h : (T t).u = .bool) : P.underlying t = some .bool := by
  obtain ⟨i, d, -, hd, hu, -⟩ := hT.of_u h (by simp)
  rw [h] at hu
  cases d <;> simp [tuOf] at hu
  exact hd
theorem TysOK.ptr (hT : TysOK P T) {t e : Nat} (h : (T t).u = .ptr e) : P.underlying t = some (.pointer e) := by
  obtain ⟨i, d, -, hd, hu, -⟩ := hT.of_u h (by simp)
  rw [h] at hu
  cases d <;> simp [tuOf] at hu
  subst hu; exact hd
theorem TysOK.map (hT : TysOK P T) {t k e : Nat} (h : (T t).u = .map k e) : P.underlying t = some (.map k e) := by
  obtain ⟨i, d, -, hd, hu, -⟩ := hT.of_u h (by simp)
  rw [h] at hu
  cases d <;> simp [tuOf] at hu
  obtain ⟨rfl, rfl⟩ := hu; exact hd
theorem TysOK.iface (hT : TysOK P T) {t : Nat} (h : (T t).u = .iface) : ∃ ms, P.underlying t = some (.interface ms) := by
  obtain ⟨i, d, -, hd, hu, -⟩ := hT.of_u h (by simp)
  rw [h] at hu
  cases d <;> simp [tuOf] at hu
  exact ⟨_, hd⟩
theorem TysOK.array (hT : TysOK P T) {t n e : Nat} (h : (T t).u = .array n e) : P.underlying t = some (.array n e) := by
  obtain ⟨i, d, -, hd, hu, -⟩ := hT.of_u h (by simp)
  rw [h] at hu
  cases d <;> simp [tuOf] at hu
  obtain ⟨rfl, rfl⟩ := hu; exact hd
theorem TysOK.struct (hT : TysOK P T) {t : Nat} {fs : List (Nat × Nat)} (h : (T t).u = .struct fs) : ∃ gs, P.underlying t = some (.struct gs) ∧ fs = gs.toList.map fun f => (f.offset, f.type) := by
  obtain ⟨i, d, -, hd, hu, -⟩ := hT.of_u h (by simp)
  rw [h] at hu
  cases d <;> simp [tuOf] at hu
  exact ⟨_, hd, hu⟩
theorem TysOK.size (hT : TysOK P T) {t : Nat} (h : (T t).size ≠ 0) (w : World) : (sizeOf t).run P w = .ok (T t).size w := by
  obtain ⟨i, d, hi, hd, hu, hs, -⟩ := hT.of_size h
  simp [sizeOf, typeInfo, hi, hs]
theorem TysOK.size? (hT : TysOK P T) {t : Nat} (h : (T t).size ≠ 0) : (P.info? t).map (·.size) = some (T t).size := by
  obtain ⟨i, d, hi, hd, hu, hs, -⟩ := hT.of_size h
  simp [hi, hs]
theorem TysOK.agg (hT : TysOK P T) {t : Nat} (h : (T t).size ≠ 0) (w : World) : (isAgg t).run P w = .ok (isAggT (T t)) w := by
  obtain ⟨i, d, hi, hd, hu, hs, -⟩ := hT.of_size h
  unfold isAgg isAggT
  rw [hu]
  cases d <;> simp [run_underlying hd, tuOf]
theorem TysOK.agg_u (hT : TysOK P T) {t : Nat} (h : (T t).u ≠ .other) (w : World) : (isAgg t).run P w = .ok (isAggT (T t)) w := by
  obtain ⟨i, d, hi, hd, hu, hs, -⟩ := hT.of_u rfl h
  unfold isAgg isAggT
  rw [hu]
  cases d <;> simp [run_underlying hd, tuOf]

theorem addr_add (b off j : Nat) : (⟨b, off, none⟩ : Addr).add j = ⟨b, off + j, none⟩ := by unfold Addr.add; split <;> simp_all
theorem cells_at {b off : Nat} {cs : Array Value} {e : TypeId} {fz : Nat × Nat} (h : w.heap[b]? = some (.cells cs e fz)) (j : Nat) : w.cell? ((⟨b, off, none⟩ : Addr).add j) = cs[off + j]? := by
  rw [addr_add, Tr.cell_blk h]
theorem run_load_agg (hT : TysOK P T) {t : Nat} (hs : (T t).size ≠ 0) (ha : isAggT (T t) = true) (a : Addr) (vs : List Value) (hl : vs.length = (T t).size) (hc : ∀ (j : Nat) v, vs[j]? = some v → w.cell? (a.add j) = some v) :
    (loadVar t a).run P w = .ok (.agg vs.toArray) w := by
  have h1 := run_loadCells_list (P := P) w a vs hc
  rw [hl] at h1
  simp [loadVar, hT.agg hs, ha, hT.size hs, h1]
theorem run_load_one (hT : TysOK P T) {t : Nat} (hs : (T t).size ≠ 0) (ha : isAggT (T t) = false) (a : Addr) (v : Value) (hc : w.cell? a = some v) :
    (loadVar t a).run P w = .ok v w := by
  simp [loadVar, hT.agg hs, ha, run_load, hc]

theorem hget_mem {h : Hp} {id : Nat} {o : Ob} (hg : hget h id = some o) : (id, o) ∈ h := by
  induction h with
  | nil => simp [hget] at hg
  | cons x r ih =>
    obtain ⟨i, o'⟩ := x
    simp only [hget] at hg
    cases hb : i == id with
    | true => simp [hb] at hg; have := eq_of_beq hb; subst this hg; simp
    | false => simp [hb] at hg; simp [ih hg]

theorem cellK_rel {l : List (List D)} {i : Int} {f : Nat} {k : Kd} {v : Value} (hk : kdOk k (rCell l i f) = true) (h : RelD w M (rCell l i f) v) : RelD w M (cellK real l i f k) v := by
  unfold cellK
  generalize hd : rCell l i f = d at *
  cases k <;> cases d <;> simp [kdOk] at hk
  · subst hk; simp only [real, hd]; exact h
  · simp only [real, hd]; exact h
  · simp only [real, hd]; exact h
  · simp only [real, hd, immOf]
    cases h
    exact ⟨none, 0, rfl, Nat.le_refl _, .inl rfl⟩
  · simp only [real, hd, immOf]; exact h
  · exact h
  · exact h
theorem cellsK_rel {l : List (List D)} {i : Int} : ∀ (ks : List Kd) (f : Nat) (vs : List Value), RelDs w M (l.getD i.toNat []) vs → rowOk ((l.getD i.toNat []).drop f) ks = true → RelDs w M (cellsK real l i f ks) ((vs.drop f).take ks.length)
  | [], f, vs, _, _ => by simp [cellsK]; exact rfl
  | k :: ks, f, vs, hr, ho => by
    have hlen := RelDs.length _ _ hr
    cases hd : (l.getD i.toNat []).drop f with
    | nil => rw [hd] at ho; simp [rowOk] at ho
    | cons d ds =>
      rw [hd] at ho
      simp only [rowOk, Bool.and_eq_true] at ho
      have hf : f < (l.getD i.toNat []).length := by
        rcases Nat.lt_or_ge f (l.getD i.toNat []).length with h | h
        · exact h
        · rw [List.drop_eq_nil_of_le h] at hd; cases hd
      have hget : (l.getD i.toNat [])[f]? = some d := by
        have := congrArg (·[0]?) hd
        simpa using this
      have hcell : rCell l i f = d := by
        unfold rCell
        rw [List.getD_eq_getElem?_getD (l := l.getD i.toNat []), hget]; rfl
      obtain ⟨v, hv, hrel⟩ := RelDs.get _ _ hr f d hget
      have hv' : vs.drop f = v :: vs.drop (f + 1) := by
        have hlt : f < vs.length := by omega
        rw [List.drop_eq_getElem_cons hlt]
        congr 1
        rw [List.getElem?_eq_getElem hlt] at hv
        exact Option.some.inj hv
      rw [hv']
      refine ⟨v, (vs.drop (f + 1)).take ks.length, by simp, ?_, ?_⟩
      · exact cellK_rel (by rw [hcell]; exact ho.1) (by rw [hcell]; exact hrel)
      · refine cellsK_rel ks (f + 1) vs hr ?_
        have : (l.getD i.toNat []).drop (f + 1) = ds := by
          have := congrArg List.tail hd
          simpa [List.tail_drop] using this
        rw [this]; exact ho.2
theorem cellsK_length (A : Ar) (l : List (List D)) (i : Int) : ∀ (ks : List Kd) (f : Nat), (cellsK A l i f ks).length = ks.length
  | [], f => rfl
  | k :: ks, f => by simp [cellsK, cellsK_length A l i ks (f + 1)]
theorem rowOk_len : ∀ (r : List D) (ks : List Kd), rowOk r ks = true → ks.length ≤ r.length
  | _, [], _ => Nat.zero_le _
  | [], _ :: _, h => by simp [rowOk] at h
  | d :: ds, k :: ks, h => by
    simp only [rowOk, Bool.and_eq_true] at h
    have := rowOk_len ds ks h.2
    simp; omega

/-- A typed load out of a row of data that stands at an offset of a block. -/
theorem load_row (hT : TysOK P T) {K : AV → Prop} {t b off c : Nat} {l : List (List D)} {i : Int} {f : Nat} {cs : Array Value} {e : TypeId} {fz : Nat × Nat} (hb : w.heap[b]? = some (.cells cs e fz))
    (hl : ∀ r ∈ l, r.length = c) (hr : RelRows w M l (cs.toList.drop off)) (hi : 0 ≤ i)
    (hok : real.okR l i f (kinds T 8 t) = true ∧ (kinds T 8 t).length = (T t).size)
    (h : match isAggT (T t) with | true => K (.d (.agg (cellsK real l i f (kinds T 8 t)))) | false => (match kinds T 8 t with | [k] => K (.d (cellK real l i f k)) | _ => False)) :
    GivesU P ρ w M (fun u => u.heap[b]? = w.heap[b]?) K (loadVar t ⟨b, off + i.toNat * c + f, none⟩) := by
  obtain ⟨hok, hlen⟩ := hok
  have hok' : i.toNat < l.length ∧ rowOk ((l.getD i.toNat []).drop f) (kinds T 8 t) = true := by simpa [real] using hok
  obtain ⟨hil, hro⟩ := hok'
  generalize hks : kinds T 8 t = ks at *
  have hget : l[i.toNat]? = some (l.getD i.toNat []) := by rw [List.getD_eq_getElem?_getD, List.getElem?_eq_getElem hil]; rfl
  have hrow := RelRows.get l _ hr hl i.toNat _ hget
  rw [List.drop_drop] at hrow
  have hc : (l.getD i.toNat []).length = c := hl _ (List.mem_of_getElem? hget)
  have hrl := RelDs.length _ _ hrow
  have hle := rowOk_len _ _ hro
  rw [List.length_drop, hc] at hle
  have hrel := cellsK_rel ks f _ hrow hro
  have hcell : ∀ (u : World), u.heap[b]? = w.heap[b]? → ∀ (j : Nat) v, (((cs.toList.drop (off + i.toNat * c)).take c).drop f |>.take ks.length)[j]? = some v → u.cell? ((⟨b, off + i.toNat * c + f, none⟩ : Addr).add j) = some v := by
    intro u hu j v hj
    rw [cells_at (hu.trans hb)]
    rw [List.getElem?_take] at hj
    split at hj
    · rw [List.getElem?_drop, List.getElem?_take] at hj
      split at hj
      · rw [List.getElem?_drop] at hj
        rw [← hj, ← Nat.add_assoc, Array.getElem?_toList]
      · cases hj
    · cases hj
  have hlen2 : (((cs.toList.drop (off + i.toNat * c)).take c).drop f |>.take ks.length).length = ks.length := by
    rw [← RelDs.length _ _ hrel, cellsK_length]
  generalize (((cs.toList.drop (off + i.toNat * c)).take c).drop f |>.take ks.length) = vs at *
  by_cases hs : (T t).size = 0
  · rw [hs] at hlen
    rw [List.length_eq_zero_iff.1 hlen] at h
    have ha : isAggT (T t) = true := by
      cases ha : isAggT (T t) with
      | true => rfl
      | false => simp [ha] at h
    have hu : (T t).u ≠ .other := by
      intro e; unfold isAggT at ha; rw [e] at ha; simp at ha
    obtain ⟨ti, d, hti, hd, hu2, hs2, -⟩ := hT.of_u rfl hu
    have hz : ti.size = 0 := by rw [← hs2, hs]
    rw [ha] at h
    refine ⟨_, .agg #[], h, ⟨#[], rfl, ?_⟩, fun u _ => ?_⟩
    · exact rfl
    · simp [loadVar, hT.agg_u hu, ha, sizeOf, typeInfo, hti, hz, loadCells, loadCellsFrom]
  · cases ha : isAggT (T t) with
    | true =>
      rw [ha] at h
      refine ⟨_, .agg vs.toArray, h, ⟨vs.toArray, rfl, by simpa using hrel⟩, fun u hu => run_load_agg hT hs ha _ vs (by rw [hlen2, hlen]) (hcell u hu)⟩
    | false =>
      rw [ha] at h
      dsimp only at h
      match ks, h, hrel, hlen2 with
      | [k], h, hrel, hlen2 =>
        simp only [cellsK] at hrel
        obtain ⟨v, r, hv, h1, h2⟩ := hrel
        have h0 := fun u hu => hcell u hu 0 v (by rw [hv]; rfl)
        refine ⟨_, v, h, h1, fun u hu => run_load_one hT hs ha _ v ?_⟩
        have h0 := h0 u hu
        rw [addr_add] at h0
        simpa using h0
end
end Go.Proofs.Yteakfibolfapiaa.Ab
