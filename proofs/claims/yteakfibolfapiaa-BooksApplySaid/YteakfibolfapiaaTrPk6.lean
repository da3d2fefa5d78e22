/- Several texts in one: Ab15, AbM. -/
import Derived.Test.YteakfibolfapiaaTrPk5
section
namespace Go.Proofs.Yteakfibolfapiaa.Ab
open Go.RowKit Go.Sort
set_option linter.unusedVariables false
set_option linter.unusedSimpArgs false

section
variable {P : Program} {T : Nat → TI} {ρ : Env} {w w' : World} {M : Nat → Prop} {n : Nat} {h : Hp}
theorem made_list (z : Array Value) (h0 : 0 < z.size) : ∀ n : Nat, (madeCells z (n * z.size)).toList = (List.replicate n z.toList).flatten
  | 0 => by simp [madeCells]
  | n + 1 => by
    have ih := made_list z h0 n
    rw [List.replicate_succ', List.flatten_append]
    rw [← ih]
    unfold madeCells
    simp only [Array.toList_map, Array.toList_range, Nat.add_mul, Nat.one_mul, List.range_add, List.map_append, List.map_map, List.flatten_cons, List.flatten_nil, List.append_nil]
    congr 1
    apply List.ext_getElem?
    intro k
    by_cases hk : k < z.size
    · have e : (n * z.size + k) % z.size = k := by rw [Nat.add_comm, Nat.add_mul_mod_self_right, Nat.mod_eq_of_lt hk]
      rw [List.getElem?_map, List.getElem?_range hk]
      simp [e, hk]
    · rw [List.getElem?_eq_none (by simp; omega), List.getElem?_eq_none (by simp; omega)]
theorem flat_rel {z : List AV} {zs : List Value} (hz : RelVs ρ w M z zs) : ∀ n : Nat, RelVs ρ w M (List.replicate n z).flatten (List.replicate n zs).flatten
  | 0 => rfl
  | n + 1 => by
    rw [List.replicate_succ, List.replicate_succ, List.flatten_cons, List.flatten_cons]
    exact RelVs.append _ _ _ _ hz (flat_rel hz n)
theorem chunks_rel {c : Nat} : ∀ (n : Nat) (ds : List D) (xs : List Value), ds.length = n * c → RelDs w M ds xs → RelRows w M (chunks c n ds) xs ∧ (chunks c n ds).length = n ∧ ∀ r ∈ chunks c n ds, r.length = c
  | 0, ds, xs, hl, h => ⟨trivial, rfl, by simp [chunks]⟩
  | n + 1, ds, xs, hl, h => by
    rw [Nat.add_mul, Nat.one_mul] at hl
    obtain ⟨h1, h2, h3⟩ := chunks_rel (c := c) n (ds.drop c) (xs.drop c) (by rw [List.length_drop]; omega) (RelDs.drop _ _ h c)
    have hlen : (ds.take c).length = c := by rw [List.length_take]; omega
    refine ⟨⟨by rw [hlen]; exact RelDs.take _ _ h c, by rw [hlen]; exact h1⟩, by simp [chunks, h2], ?_⟩
    intro r hr
    simp only [chunks, List.mem_cons] at hr
    rcases hr with rfl | hr
    · exact hlen
    · exact h3 r hr
/-- What a slice literal makes: its cells, in a new block. -/
theorem bslice_run (hT : TysOK P T) {K : List (List D) → Nat → Prop} {st : St} {a : Act} {t len : Nat} {ps : List (Nat × Operand)} (hs : RepS ρ st a w) (h : bsliceA T t len (evp st ps) K) :
    ∃ e c l cs, K l c ∧ 0 < c ∧ l.length = len ∧ len ≤ maxLen ∧ (∀ r ∈ l, r.length = c) ∧ RelRows w (Mut ρ st.h) l cs.toList ∧ cs.size = len * c ∧
      (Instr.buildSlice t len (ps.map fun p => (p.1, a.eval p.2)).toArray).run P w = .ok (.slice (some ⟨w.heap.size, 0, none⟩) len len) (w.alloc (.cells cs e)) := by
  unfold bsliceA Ab.ty at h
  split at h
  case h_2 => exact h.elim
  rename_i e hu
  obtain ⟨hnt, h1⟩ := bif_true h not_false
  clear h
  cases hz : zerosOf T e with
  | none => simp [hz] at h1
  | some z =>
    cases hp : partsA.go (fun i => some (i * (T e).size, (T e).size)) (evp st ps) with
    | none => simp [hz, hp] at h1
    | some l =>
      simp only [hz, hp] at h1
      cases hf : fillA (List.replicate len z).flatten l with
      | none => simp [hf] at h1
      | some cs =>
        simp only [hf] at h1
        cases hd : dsOf cs with
        | none => simp [hd] at h1
        | some ds =>
          simp only [hd] at h1
          obtain ⟨hb1, h2⟩ := bif_true h1 not_false
          obtain ⟨hb2, hk⟩ := bif_true h2 not_false
          clear h1 h2
          simp only [Bool.and_eq_true, beq_iff_eq] at hb2
          have hb1 := Nat.le_of_ble_eq_true hb1
          have hs0 : 0 < (T e).size := Nat.le_of_ble_eq_true hb2.1
          obtain ⟨zv, hzr, hzrel, -⟩ := zeros_rel (P := P) (w := w) (ρ := ρ) (M := Mut ρ st.h) hT (by omega) hz
          have hzl : zv.cells.size = (T e).size := by
            have h1 : z.length = zv.cells.toList.length := RelVs.length _ _ hzrel
            have h2 : zv.cells.toList.length = zv.cells.size := Array.length_toList
            omega
          obtain ⟨e1, e2⟩ := evp_rel hs ps
          have hmade := made_list zv.cells (by omega) len
          rw [hzl] at hmade
          obtain ⟨cur', h2, h3⟩ := fill_run _ _ _ _ _ (madeCells zv.cells (len * (T e).size)) e1 e2 (noTop_spec _ hnt) hp (by rw [hmade]; exact flat_rel hzrel len) hf
          rw [dsOf_map _ _ hd] at h3
          have h4 := rels_ds ds _ h3
          have hlen : ds.length = len * (T e).size := by
            have q1 := RelDs.length _ _ h4
            have q2 := RelVs.length _ _ (flat_rel hzrel len)
            rw [← hmade] at q2
            have q3 : (madeCells zv.cells (len * (T e).size)).toList.length = len * (T e).size := by rw [Array.length_toList, size_madeCells]
            have q4 : ∀ (l : List (Nat × List AV)) (z cs : List AV), fillA z l = some cs → cs.length = z.length := by
              intro l
              induction l with
              | nil => intro z cs h; simp [fillA] at h; rw [h]
              | cons p l ih =>
                obtain ⟨off, vs⟩ := p
                intro z cs h
                simp only [fillA] at h
                cases hle : Nat.ble (off + vs.length) z.length with
                | false => simp [hle] at h
                | true =>
                  simp [hle] at h
                  have hle := Nat.le_of_ble_eq_true hle
                  rw [ih _ _ h, setMany_eq vs z off hle]
                  simp only [List.length_append, List.length_take, List.length_drop]
                  omega
            have q5 := q4 _ _ _ hf
            rw [dsOf_map _ _ hd, List.length_map] at q5
            omega
          obtain ⟨h5, h6, h7⟩ := chunks_rel (w := w) (M := Mut ρ st.h) len ds cur'.toList hlen h4
          have hcs : cur'.size = len * (T e).size := by
            have q1 := RelDs.length _ _ h4
            have q2 : cur'.toList.length = cur'.size := Array.length_toList
            omega
          refine ⟨e, (T e).size, _, cur', hk, hs0, h6, ?_, h7, h5, hcs, ?_⟩
          · have : len ≤ len * (T e).size := Nat.le_mul_of_pos_right len hs0
            unfold maxLen; omega
          · by_cases hl0 : len = 0
            · subst hl0
              have e3 : madeCells zv.cells (0 * (T e).size) = #[] := by simp [madeCells]
              rw [e3] at h2
              simp [Instr.buildSlice, run_underlying (hT.slice hu), hT.size (show (T e).size ≠ 0 by omega), h2, newRow, show Array.range 0 = #[] from rfl]
            · have hne : len * (T e).size ≠ 0 := Nat.mul_ne_zero hl0 (by omega)
              have hle : ¬ 16777216 < len * (T e).size := by omega
              unfold madeCells at h2
              simp [Instr.buildSlice, run_underlying (hT.slice hu), hT.size (show (T e).size ≠ 0 by omega), hne, hle, hzr, h2, newRow]
theorem own_new {e c len cap : Nat} {cs : Array Value} {xs : List Value} (hm : cap ≤ maxLen) (hlc : len ≤ cap) (hcs : cs.size = cap * c) (hxs : cs.toList.take (len * c) = xs) (hxl : xs.length = len * c) :
    (w.alloc (.cells cs e)).ownsRow 0 e c (.slice (some ⟨w.heap.size, 0, none⟩) len cap) len xs :=
  ⟨hxl, .inr ⟨w.heap.size, cap, cs, rfl, Nat.zero_le _, Tr.blk_new w _, hlc, hm, hcs, hxs⟩⟩
theorem alloc_size (w : World) (o : Obj) : w.heap.size ≤ (w.alloc o).heap.size := by simp
theorem bslice_next (hT : TysOK P T) {K : St → AV → Prop} {st : St} {a : Act} {t len : Nat} {ps : List (Nat × Operand)} {own : Bool} (hs : RepS ρ st a w)
    (h : bsliceA T t len (evp st ps) fun l c => match own with | true => K { st with n := st.n + 1, h := st.h ++ [(st.n, .row c l)] } (.sl st.n) | false => K st (.d (.imm l))) :
    Nexts P ρ st w K (Instr.buildSlice t len (ps.map fun p => (p.1, a.eval p.2)).toArray) := by
  obtain ⟨e, c, l, cs, hk, hc, hl, hm, hlen, hr, hcs, hrun⟩ := bslice_run hT hs h
  subst hl
  cases own with
  | true =>
    dsimp only at hk
    refine nexts_new (av := .sl st.n) (pv := .slice (some ⟨w.heap.size, 0, none⟩) l.length l.length) (o := .row c l) hs (grows_alloc w _) rfl rfl rfl (alloc_size _ _) hrun (fun b hb => by simp [blkIn, blkOf] at hb; omega) (fun hk' => ?_) ⟨upd_same _ _ _, _, _, _, rfl⟩ hk
    refine ⟨_, cs.toList, e, upd_same _ _ _, hc, own_new hm (Nat.le_refl _) hcs ?_ ?_, hlen, RelRows.mono hk' _ _ hr⟩
    · rw [List.take_of_length_le]; rw [Array.length_toList, hcs]; exact Nat.le_refl _
    · rw [Array.length_toList, hcs]
  | false =>
    dsimp only at hk
    refine nexts_grow (av := .d (.imm l)) hs (grows_alloc w _) rfl rfl rfl (alloc_size _ _) hrun ?_ hk
    refine ⟨_, _, rfl, Nat.le_refl _, .inr ⟨w.heap.size, 0, cs, e, _, c, rfl, Tr.blk_new w _, fun m => Nat.lt_irrefl _ (Mut.lt hs.rep m), hlen, ?_⟩⟩
    rw [List.drop_zero]
    exact RelRows.mono (Grows.keeps (grows_alloc w _)) _ _ hr
theorem make_next (hT : TysOK P T) {K : St → AV → Prop} {st : St} {a : Act} {t e : Nat} {z : List D} {kl kc : IntKind} {l c : Int} (hs : RepS ρ st a w) (hu : (T t).u = .slice e) (hz : (T e).zero = some z)
    (hb : (bif Nat.blt 0 (T e).size && (z.length == (T e).size) then real.mkok l c (T e).bytes = true else False)) (hK : K { st with n := st.n + 1, h := st.h ++ [(st.n, .row (T e).size (real.rep l z))] } (.sl st.n)) :
    Nexts P ρ st w K (Instr.makeSlice t (.int kl l) (.int kc c)) := by
  obtain ⟨hb1, hm⟩ := bif_true hb not_false
  simp only [Bool.and_eq_true, beq_iff_eq] at hb1
  have hs0 : 0 < (T e).size := Nat.le_of_ble_eq_true hb1.1
  have hm : 0 ≤ l ∧ l ≤ c ∧ c ≤ (maxLen : Nat) ∧ ((T e).bytes : Int) * c ≤ 140737488355328 := by simpa [real] using hm
  obtain ⟨i, zv, hi, hiz, hzd, his, hib⟩ := hT.zero (by omega) hz
  have hzrel := zeroD_rel (w := w) (M := Mut ρ st.h) hzd
  have hzs : zv.cells.size = (T e).size := by
    have h1 := RelDs.length _ _ hzrel
    have h2 : zv.cells.toList.length = zv.cells.size := Array.length_toList
    omega
  obtain ⟨m0, m1, m2, m3⟩ := hm
  have hmx : (maxLen : Nat) = 9223372036854775807 := rfl
  have hrun := run_make (P := P) w t e i zv (hT.slice hu) hi hiz kl kc l c m0 m1 (by rw [hib]; omega) (by omega)
  rw [his] at hrun
  have hmade := made_list zv.cells (by omega) c.toNat
  rw [hzs] at hmade
  refine nexts_new (av := .sl st.n) (pv := .slice (some ⟨w.heap.size, 0, none⟩) l.toNat c.toNat) (o := .row (T e).size (real.rep l z)) hs (grows_alloc w _) rfl rfl rfl (alloc_size _ _) hrun (fun b hb => by simp [blkIn, blkOf] at hb; omega) (fun hk' => ?_) ⟨upd_same _ _ _, _, _, _, rfl⟩ hK
  have hrl : (real.rep l z).length = l.toNat := by simp [real]
  have hmul : l.toNat * (T e).size ≤ c.toNat * (T e).size := Nat.mul_le_mul_right _ (by omega)
  refine ⟨_, (madeCells zv.cells (c.toNat * (T e).size)).toList.take (l.toNat * (T e).size), e, upd_same _ _ _, hs0, ?_, ?_, ?_⟩
  · rw [hrl]
    exact own_new (by omega) (by omega) (size_madeCells _ _) rfl (by rw [List.length_take, Array.length_toList, size_madeCells]; omega)
  · intro r hr
    have : r = z := (List.mem_replicate.1 hr).2
    rw [this]; exact hb1.2
  · refine RelRows.mk (c := (T e).size) _ _ (fun r hr => by rw [(List.mem_replicate.1 hr).2]; exact hb1.2) (fun k r hk => ?_)
    have hkl : k < l.toNat := by
      have := (List.getElem?_eq_some_iff.1 hk).1
      rw [hrl] at this; exact this
    have hrz : r = z := (List.mem_replicate.1 (List.mem_of_getElem? hk)).2
    subst hrz
    have hkm : k * (T e).size + (T e).size ≤ l.toNat * (T e).size := by
      have : (k + 1) * (T e).size ≤ l.toNat * (T e).size := Nat.mul_le_mul_right _ hkl
      rw [Nat.add_mul, Nat.one_mul] at this; exact this
    have e1 : (((madeCells zv.cells (c.toNat * (T e).size)).toList.take (l.toNat * (T e).size)).drop (k * (T e).size)).take (T e).size = zv.cells.toList := by
      rw [hmade]
      have q : ∀ (n k : Nat), k < n → ((List.replicate n zv.cells.toList).flatten.drop (k * (T e).size)).take (T e).size = zv.cells.toList := by
        intro n
        induction n with
        | zero => intro k hk; omega
        | succ n ih =>
          intro k hk
          rw [List.replicate_succ, List.flatten_cons]
          have hl : zv.cells.toList.length = (T e).size := by rw [Array.length_toList, hzs]
          cases k with
          | zero => rw [Nat.zero_mul, List.drop_zero, ← hl, List.take_left]
          | succ k =>
            rw [Nat.add_mul, Nat.one_mul, Nat.add_comm, ← List.drop_drop]
            rw [show (zv.cells.toList ++ (List.replicate n zv.cells.toList).flatten).drop (T e).size = (List.replicate n zv.cells.toList).flatten by rw [← hl, List.drop_left]]
            exact ih k (by omega)
      have h9 := q c.toNat k (by omega)
      apply List.ext_getElem?
      intro j
      rw [window_get _ _ _ _ _ hkm]
      have h8 := congrArg (fun l : List Value => l[j]?) h9
      simp only [List.getElem?_take, List.getElem?_drop] at h8
      exact h8
    rw [e1]
    exact RelDs.mono hk' _ _ hzrel
theorem alloc_next (hT : TysOK P T) {K : St → AV → Prop} {st : St} {a : Act} {e : Nat} {z : List AV} (hs : RepS ρ st a w) (hs0 : (T e).size ≠ 0) (hz : zerosOf T e = some z) (hK : K { st with n := st.n + 1, h := st.h ++ [(st.n, .cells z)] } (.ptr st.n 0)) :
    Nexts P ρ st w K (Instr.alloc e true (.tuple #[])) := by
  obtain ⟨zv, hzr, hzrel, -⟩ := zeros_rel (P := P) (w := w) (ρ := ρ) (M := Mut ρ st.h) hT hs0 hz
  have hrun : (Instr.alloc e true (.tuple #[])).run P w = .ok (.pointer (some ⟨w.heap.size, 0, none⟩)) (w.alloc (.cells zv.cells e)) := by
    simp [Instr.alloc, hzr, newVar, newRow]
  refine nexts_new (av := .ptr st.n 0) (pv := .pointer (some ⟨w.heap.size, 0, none⟩)) (o := .cells z) hs (grows_alloc w _) rfl rfl rfl (alloc_size _ _) hrun (fun b hb => by simp [blkIn, blkOf] at hb; omega) (fun hk' => ?_) ⟨_, upd_same _ _ _, rfl⟩ hK
  exact ⟨_, _, e, upd_same _ _ _, Tr.blk_new w _, RelVs.mono (upd_sub hs.rep.fresh _) hk' _ _ hzrel⟩
theorem box_next {K : St → AV → Prop} {st : St} {a : Act} {e : Nat} {x : AV} {v : Value} (hs : RepS ρ st a w) (hx : RelV ρ w (Mut ρ st.h) x v) (ht : x ≠ .top) (hK : K { st with n := st.n + 1, h := st.h ++ [(st.n, .cells (cellsOf x))] } (.ptr st.n 0)) :
    Nexts P ρ st w K (Instr.box e v) := by
  have hrun : (Instr.box e v).run P w = .ok (.pointer (some ⟨w.heap.size, 0, none⟩)) (w.alloc (.cells v.cells e)) := by
    simp [Instr.box, newVar, newRow]
  refine nexts_new (av := .ptr st.n 0) (pv := .pointer (some ⟨w.heap.size, 0, none⟩)) (o := .cells (cellsOf x)) hs (grows_alloc w _) rfl rfl rfl (alloc_size _ _) hrun (fun b hb => by simp [blkIn, blkOf] at hb; omega) (fun hk' => ?_) ⟨_, upd_same _ _ _, rfl⟩ hK
  exact ⟨_, _, e, upd_same _ _ _, Tr.blk_new w _, RelVs.mono (upd_sub hs.rep.fresh _) hk' _ _ (cells_rel hx ht)⟩
theorem eqIn_bool {t : Nat} {a b : Bool} (d : Nat) (hu : P.underlying t = some .bool) : (Op.equalIn (d + 1) t (.bool a) (.bool b)).run P w = .ok (a == b) w := by
  unfold Op.equalIn
  simp [run_underlying hu]
theorem eqIn_ptr0 {t e : Nat} {b : Option Addr} (d : Nat) (hu : P.underlying t = some (.pointer e)) : (Op.equalIn (d + 1) t (.pointer none) (.pointer b)).run P w = .ok b.isNone w := by
  unfold Op.equalIn
  simp [run_underlying hu]
theorem eqIn_ptr1 {t e : Nat} {a : Addr} (d : Nat) (hu : P.underlying t = some (.pointer e)) : (Op.equalIn (d + 1) t (.pointer (some a)) (.pointer none)).run P w = .ok false w := by
  unfold Op.equalIn
  simp [run_underlying hu]
theorem eqIn_sl0 {t e : Nat} (d : Nat) (hu : P.underlying t = some (.slice e)) : (Op.equalIn (d + 1) t (.slice none 0 0) (.slice none 0 0)).run P w = .ok true w := by
  unfold Op.equalIn
  simp [run_underlying hu]
theorem eqIn_map0 {t k e : Nat} (d : Nat) (hu : P.underlying t = some (.map k e)) : (Op.equalIn (d + 1) t (.map none) (.map none)).run P w = .ok true w := by
  unfold Op.equalIn
  simp [run_underlying hu]
theorem eqIn_map1 {t k e : Nat} {r : Nat} (d : Nat) (hu : P.underlying t = some (.map k e)) : (Op.equalIn (d + 1) t (.map (some r)) (.map none)).run P w = .ok false w := by
  unfold Op.equalIn
  simp [run_underlying hu]
theorem eqIn_if0 {t : Nat} {ms : Array (String × TypeId)} (d : Nat) (hu : P.underlying t = some (.interface ms)) : (Op.equalIn (d + 1) t .nilIface .nilIface).run P w = .ok true w := by
  unfold Op.equalIn
  simp [run_underlying hu]
theorem eqIn_if1 {t a : Nat} {b : Value} {ms : Array (String × TypeId)} (d : Nat) (hu : P.underlying t = some (.interface ms)) : (Op.equalIn (d + 1) t (.iface a b) .nilIface).run P w = .ok false w := by
  unfold Op.equalIn
  simp [run_underlying hu]
theorem eqIn_if2 {t a : Nat} {b : Value} {ms : Array (String × TypeId)} (d : Nat) (hu : P.underlying t = some (.interface ms)) : (Op.equalIn (d + 1) t .nilIface (.iface a b)).run P w = .ok false w := by
  unfold Op.equalIn
  simp [run_underlying hu]
theorem eqIn_if3 {t a c : Nat} {b d : Value} {ms : Array (String × TypeId)} (n : Nat) (hu : P.underlying t = some (.interface ms)) (hne : a ≠ c) : (Op.equalIn (n + 1) t (.iface a b) (.iface c d)).run P w = .ok false w := by
  unfold Op.equalIn
  simp [run_underlying hu, hne]
theorem eqIn_int {t : Nat} {k k' : IntKind} {a b : Int} (d : Nat) (hu : P.underlying t = some (.int k')) : (Op.equalIn (d + 1) t (.int k a) (.int k b)).run P w = .ok (a == b) w := by
  unfold Op.equalIn
  simp [run_underlying hu]
theorem eqIn_if4 {t a : Nat} {k k' : IntKind} {x y : Int} {ms : Array (String × TypeId)} {i : TypeInfo} (hu : P.underlying t = some (.interface ms)) (hi : P.info? a = some i) (hc : i.comparable = true) (hk : P.underlying a = some (.int k')) :
    (Op.equalIn (9999 + 1) t (.iface a (.int k x)) (.iface a (.int k y))).run P w = .ok (x == y) w := by
  unfold Op.equalIn
  simp [run_underlying hu, typeInfo, hi, hc, eqIn_int 9998 hk]
theorem ifc_gives (hT : TysOK P T) {K : AV → Prop} {t : Nat} {x : AV} {v : Value} (hx : RelV ρ w M x v) (h : ifcA T t x K) : GivesA P ρ w M K (Instr.makeInterface t v) := by
  have key : ∀ u, (T t).u = u → u ≠ .other → u ≠ .iface → K (.ifc t x) → GivesA P ρ w M K (Instr.makeInterface t v) := by
    intro u hu h1 h2 hk
    obtain ⟨i, d, -, hd, hu3, -⟩ := hT.of_u hu h1
    refine ⟨_, .iface t v, hk, ⟨v, rfl, hx⟩, fun w' _ => ?_⟩
    cases d with
    | interface ms => rw [hu] at hu3; exact absurd hu3 h2
    | _ => simp [Instr.makeInterface, run_underlying hd]
  unfold ifcA Ab.ty at h
  cases hu : (T t).u with
  | iface => rw [hu] at h; exact h.elim
  | other => rw [hu] at h; exact h.elim
  | _ => rw [hu] at h; exact key _ hu (by simp) (by simp) h
theorem eq_gives (hT : TysOK P T) {K : AV → Prop} {t : Nat} {x y : AV} {vx vy : Value} {neq cst : Bool} {X Y : Operand} (hx : RelV ρ w M x vx) (hy : RelV ρ w M y vy) (hc : cst = (isConst X || isConst Y)) (h : eqA T real neq cst t x y K) :
    GivesA P ρ w M K (do eqGuard (if neq then .neq else .eql) t X Y vx vy; binOp (if neq then .neq else .eql) t vx vy) := by
  have eq10 : ∀ t x y, Op.equal t x y = Op.equalIn (9999 + 1) t x y := fun _ _ _ => rfl
  have b1 : ∀ t a b, binOp .eql t (.bool a) (.bool b) = (do pure (.bool (← Op.equal t (.bool a) (.bool b)))) := fun _ _ _ => rfl
  have b2 : ∀ t a b, binOp .neq t (.bool a) (.bool b) = (do pure (.bool (!(← Op.equal t (.bool a) (.bool b))))) := fun _ _ _ => rfl
  have b3 : ∀ t a b, binOp .eql t (.pointer a) (.pointer b) = (do pure (.bool (← Op.equal t (.pointer a) (.pointer b)))) := fun _ _ _ => rfl
  have b4 : ∀ t a b, binOp .neq t (.pointer a) (.pointer b) = (do pure (.bool (!(← Op.equal t (.pointer a) (.pointer b))))) := fun _ _ _ => rfl
  have b5 : ∀ t a b c a' b' c', binOp .eql t (.slice a b c) (.slice a' b' c') = (do pure (.bool (← Op.equal t (.slice a b c) (.slice a' b' c')))) := fun _ _ _ _ _ _ _ => rfl
  have b6 : ∀ t a b c a' b' c', binOp .neq t (.slice a b c) (.slice a' b' c') = (do pure (.bool (!(← Op.equal t (.slice a b c) (.slice a' b' c'))))) := fun _ _ _ _ _ _ _ => rfl
  have b7 : ∀ t a b, binOp .eql t (.map a) (.map b) = (do pure (.bool (← Op.equal t (.map a) (.map b)))) := fun _ _ _ => rfl
  have b8 : ∀ t a b, binOp .neq t (.map a) (.map b) = (do pure (.bool (!(← Op.equal t (.map a) (.map b))))) := fun _ _ _ => rfl
  have b9 : binOp .eql t .nilIface .nilIface = (do pure (.bool (← Op.equal t .nilIface .nilIface))) := rfl
  have c1 : binOp .neq t .nilIface .nilIface = (do pure (.bool (!(← Op.equal t .nilIface .nilIface)))) := rfl
  have c2 : ∀ a b, binOp .eql t (.iface a b) .nilIface = (do pure (.bool (← Op.equal t (.iface a b) .nilIface))) := fun _ _ => rfl
  have c3 : ∀ a b, binOp .neq t (.iface a b) .nilIface = (do pure (.bool (!(← Op.equal t (.iface a b) .nilIface)))) := fun _ _ => rfl
  have c4 : ∀ a b, binOp .eql t .nilIface (.iface a b) = (do pure (.bool (← Op.equal t .nilIface (.iface a b)))) := fun _ _ => rfl
  have c5 : ∀ a b, binOp .neq t .nilIface (.iface a b) = (do pure (.bool (!(← Op.equal t .nilIface (.iface a b))))) := fun _ _ => rfl
  have c6 : ∀ a b c d, binOp .eql t (.iface a b) (.iface c d) = (do pure (.bool (← Op.equal t (.iface a b) (.iface c d)))) := fun _ _ _ _ => rfl
  have c7 : ∀ a b c d, binOp .neq t (.iface a b) (.iface c d) = (do pure (.bool (!(← Op.equal t (.iface a b) (.iface c d))))) := fun _ _ _ _ => rfl
  unfold eqA Ab.ty at h
  split at h
  · rename_i hu
    split at h
    · rename_i a b
      rw [relBool hx, relBool hy]
      refine ⟨_, _, h, rfl, fun u _ => ?_⟩
      cases neq <;> simp [eqGuard, b1, b2, b3, b4, b5, b6, b7, b8, eq10, eqIn_bool _ (hT.bool hu), real]
    · exact h.elim
  · rename_i e hu
    have hu' := hT.ptr hu
    have nil : ∀ {v : Value}, RelV ρ w M (.d .nilp) v → v = .pointer none := fun h => h
    split at h
    · rw [nil hx, nil hy]
      refine ⟨_, _, h, rfl, fun u _ => ?_⟩
      cases neq <;> simp [eqGuard, b1, b2, b3, b4, b5, b6, b7, b8, eq10, eqIn_ptr0 _ hu', eqIn_ptr1 _ hu']
    · obtain ⟨b, hb, rfl⟩ := hx
      rw [nil hy]
      refine ⟨_, _, h, rfl, fun u _ => ?_⟩
      cases neq <;> simp [eqGuard, b1, b2, b3, b4, b5, b6, b7, b8, eq10, eqIn_ptr0 _ hu', eqIn_ptr1 _ hu']
    · obtain ⟨g, n, cap, hb, h0, rfl⟩ := hx
      rw [nil hy]
      refine ⟨_, _, h, rfl, fun u _ => ?_⟩
      cases neq <;> simp [eqGuard, b1, b2, b3, b4, b5, b6, b7, b8, eq10, eqIn_ptr0 _ hu', eqIn_ptr1 _ hu']
    · obtain ⟨b, off, cs, e, fz, c, rfl, -⟩ := hx
      rw [nil hy]
      refine ⟨_, _, h, rfl, fun u _ => ?_⟩
      cases neq <;> simp [eqGuard, b1, b2, b3, b4, b5, b6, b7, b8, eq10, eqIn_ptr0 _ hu', eqIn_ptr1 _ hu']
    · obtain ⟨b, hb, rfl⟩ := hy
      rw [nil hx]
      refine ⟨_, _, h, rfl, fun u _ => ?_⟩
      cases neq <;> simp [eqGuard, b1, b2, b3, b4, b5, b6, b7, b8, eq10, eqIn_ptr0 _ hu', eqIn_ptr1 _ hu']
    · exact h.elim
  · rename_i e hu
    split at h
    · obtain rfl : vx = .slice none 0 0 := hx
      obtain rfl : vy = .slice none 0 0 := hy
      refine ⟨_, _, h, rfl, fun u _ => ?_⟩
      cases neq <;> simp [eqGuard, b1, b2, b3, b4, b5, b6, b7, b8, eq10, eqIn_sl0 _ (hT.slice hu)]
    · rename_i l
      obtain ⟨a, cap, rfl, hcap, hl⟩ := hx
      obtain rfl : vy = .slice none 0 0 := hy
      have h1 := h.h a.isNone (fun ha => by
        rcases hl with hl | ⟨b, off, cs, e', fz, c, rfl, -⟩
        · exact hl
        · cases ha)
      refine ⟨_, _, h1, rfl, fun u _ => ?_⟩
      cases neq <;> simp [eqGuard, b1, b2, b3, b4, b5, b6, b7, b8, eq10, Lib.run_equalIn_slice_nil u 9999 t e a l.length cap 0 0 (hT.slice hu)] <;> cases a <;> rfl
    · exact h.elim
  · rename_i k e hu
    have hu' := hT.map hu
    split at h
    · obtain rfl : vx = .map none := hx
      obtain rfl : vy = .map none := hy
      refine ⟨_, _, h, rfl, fun u _ => ?_⟩
      cases neq <;> simp [eqGuard, b1, b2, b3, b4, b5, b6, b7, b8, eq10, eqIn_map0 _ hu', eqIn_map1 _ hu']
    · obtain ⟨hb, r, rfl⟩ := hx
      obtain rfl : vy = .map none := hy
      refine ⟨_, _, h, rfl, fun u _ => ?_⟩
      cases neq <;> simp [eqGuard, b1, b2, b3, b4, b5, b6, b7, b8, eq10, eqIn_map0 _ hu', eqIn_map1 _ hu']
    · exact h.elim
  · rename_i fs hu
    split at h
    · rename_i l l'
      obtain ⟨hq, h1⟩ := bif_true h not_false
      simp only [Bool.and_eq_true] at hq
      obtain ⟨⟨q1, q2⟩, q3⟩ := hq
      obtain ⟨xs, rfl, hx⟩ := hx
      obtain ⟨ys, rfl, hy⟩ := hy
      refine ⟨_, _, h1, rfl, fun u _ => ?_⟩
      have := hT.seq t q1 neq l l' X Y xs ys w u M q2 q3 hx hy
      rw [this]
      cases neq <;> rfl
    · exact h.elim
  · rename_i hu
    obtain ⟨ms, hu'⟩ := hT.iface hu
    split at h
    · obtain ⟨hc1, h1⟩ := bif_true h not_false
      obtain rfl : vx = .nilIface := hx
      obtain rfl : vy = .nilIface := hy
      refine ⟨_, _, h1, rfl, fun u _ => ?_⟩
      rw [hc1] at hc
      have e1 : ∀ op, (eqGuard op t X Y .nilIface .nilIface).run P u = .ok () u := by
        intro op
        have hor : isConst X = true ∨ isConst Y = true := by
          cases hX : isConst X with
          | true => exact .inl rfl
          | false => rw [hX, Bool.false_or] at hc; exact .inr hc.symm
        unfold eqGuard
        rcases hor with hX | hX
        · cases X with
          | const v => cases op <;> simp
          | _ => cases hX
        · cases Y with
          | const v => cases op <;> simp
          | _ => cases hX
      cases neq <;> simp [e1, b9, c1, eq10, eqIn_if0 _ hu']
    · obtain ⟨y, rfl, -⟩ := hx
      obtain rfl : vy = .nilIface := hy
      refine ⟨_, _, h, rfl, fun u _ => ?_⟩
      cases neq <;> simp [eqGuard, c2, c3, eq10, eqIn_if1 _ hu']
    · obtain ⟨y, rfl, -⟩ := hy
      obtain rfl : vx = .nilIface := hx
      refine ⟨_, _, h, rfl, fun u _ => ?_⟩
      cases neq <;> simp [eqGuard, c4, c5, eq10, eqIn_if2 _ hu']
    · rename_i t1 k a t2 k' b
      obtain ⟨y1, rfl, hy1⟩ := hx
      obtain ⟨y2, rfl, hy2⟩ := hy
      obtain rfl : y1 = .int k a := hy1
      obtain rfl : y2 = .int k' b := hy2
      cases ht : t1 == t2 with
      | false =>
        have hne : t1 ≠ t2 := by simpa using ht
        rw [ht] at h
        refine ⟨_, _, h, rfl, fun u _ => ?_⟩
        cases neq <;> simp [eqGuard, c6, c7, eq10, eqIn_if3 _ hu' hne]
      | true =>
        obtain rfl := eq_of_beq ht
        rw [ht] at h
        simp only [cond_true] at h
        split at h
        · rename_i kk hk
          obtain ⟨i, d, hi, hd, hu3, -, -, -, hcm⟩ := hT.of_u hk (by simp)
          obtain ⟨hkk, h1⟩ := bif_true h not_false
          have hkk : k = k' := by simpa using hkk
          subst hkk
          refine ⟨_, _, h1, rfl, fun u _ => ?_⟩
          cases neq <;> simp [eqGuard, c6, c7, eq10, eqIn_if4 hu' hi (hcm ⟨kk, hk⟩) (hT.int hk), real, rCmp]
        · exact h.elim
    · exact h.elim
  · exact h.elim
end
end Go.Proofs.Yteakfibolfapiaa.Ab
end
section
namespace Go.Proofs.Yteakfibolfapiaa.Ab
open Go.RowKit Go.Sort
set_option linter.unusedVariables false
set_option linter.unusedSimpArgs false

section
variable {P : Program} {T : Nat → TI} {ρ : Env} {w w' : World} {M : Nat → Prop} {n : Nat} {h : Hp}
theorem obj_mp {id : Nat} {k : IntKind} {l : List (Int × Value)} {h : Hp} (r : Rep ρ n h w) (ho : hget h id = some (.mp k l)) : ∃ b, ρ id = some (.map (some b)) ∧ Mk.IMap k w b l := r.objs id _ (hget_mem ho)
theorem obj_it {id e : Nat} {k : IntKind} {l : List (Int × Value)} {c : Option (Int × Value)} {h : Hp} (r : Rep ρ n h w) (ho : hget h id = some (.it k e l c)) : ∃ b r, ρ id = some (.pointer (some ⟨b, 0, none⟩)) ∧ Mk.IIterC k w r b l c ∧ ¬ Mut ρ h r := r.objs id _ (hget_mem ho)
theorem mapOf_rel {st : St} {a : Act} {x : AV} {v : Value} {k : IntKind} {l : List (Int × Value)} (hs : RepS ρ st a w) (hx : RelV ρ w (Mut ρ st.h) x v) (h : mapOf st x = some (k, l)) : ∃ r, v = .map (some r) ∧ Mk.IMap k w r l := by
  cases x with
  | d y =>
    cases y with
    | fm k' l' =>
      simp only [mapOf, Option.some.injEq, Prod.mk.injEq] at h
      obtain ⟨rfl, rfl⟩ := h
      obtain ⟨r, rfl, h1, -⟩ := hx
      exact ⟨r, rfl, h1⟩
    | _ => simp [mapOf] at h
  | map id =>
    simp only [mapOf] at h
    cases ho : hget st.h id with
    | none => simp [ho] at h
    | some o =>
      cases o with
      | mp k' l' =>
        simp only [ho, Option.some.injEq, Prod.mk.injEq] at h
        obtain ⟨rfl, rfl⟩ := h
        obtain ⟨b, h1, h2⟩ := obj_mp hs.rep ho
        obtain ⟨h3, -⟩ := hx
        rw [h1] at h3
        exact ⟨b, (Option.some.inj h3).symm, h2⟩
      | _ => simp [ho] at h
  | _ => simp [mapOf] at h
theorem keyOf_rel {k : IntKind} {x : AV} {v : Value} {key : Int} (hx : RelV ρ w M x v) (h : keyOf k x = some key) : v = .int k key := by
  cases x with
  | d y =>
    cases y with
    | int k' m =>
      simp only [keyOf] at h
      by_cases e : k = k'
      · subst e
        simp at h
        subst h
        exact hx
      · simp [e] at h
    | _ => simp [keyOf] at h
  | _ => simp [keyOf] at h
/-! elements -/
theorem cv_rel {l : List (Int × Value)} {key : Int} : ∀ (ks : List Kd) (vs : List Value) (j : Nat), cvOk ks vs = true → (∀ i, mcell l key (j + i) = vs[i]?) → RelDs w M (mcellsA real l key j ks) vs
  | [], [], j, _, _ => rfl
  | [], v :: vs, j, h, _ => by simp [cvOk] at h
  | k :: ks, [], j, h, _ => by simp [cvOk] at h
  | k :: ks, v :: vs, j, h, hc => by
    simp only [cvOk, Bool.and_eq_true] at h
    obtain ⟨h1, h2⟩ := h
    have h0 := hc 0
    simp only [Nat.add_zero, List.getElem?_cons_zero] at h0
    refine ⟨v, vs, rfl, ?_, cv_rel ks vs (j + 1) h2 fun i => ?_⟩
    · cases k with
      | int k =>
        cases v with
        | int k' n =>
          have e : k = k' := by simpa [kvOk] using h1
          subst e
          simp only [mcellA, real, h0]
          rfl
        | _ => simp [kvOk] at h1
      | bool =>
        cases v with
        | bool b => simp only [mcellA, real, h0]; rfl
        | _ => simp [kvOk] at h1
      | str =>
        cases v with
        | string s => simp only [mcellA, real, h0, RelD]
        | _ => simp [kvOk] at h1
      | _ => cases v <;> simp [kvOk] at h1
    · have := hc (i + 1)
      rw [List.getElem?_cons_succ] at this
      rw [← this]
      congr 1
      omega
theorem zk_rel {l : List (Int × Value)} {key : Int} (hn : Mk.look l key = none) : ∀ (ks : List Kd) (z : List D) (vs : List Value) (j : Nat), zerosK ks z = true → RelDs w M z vs → RelDs w M (mcellsA real l key j ks) vs
  | [], z, vs, j, h, r => by
    cases z with
    | nil => exact r
    | cons d z => simp [zerosK] at h
  | k :: ks, z, vs, j, h, r => by
    have hm : ∀ j, mcell l key j = none := fun j => by simp [mcell, hn]
    cases z with
    | nil => cases k <;> simp [zerosK] at h
    | cons d z =>
      obtain ⟨v, vs', rfl, hv, r⟩ := r
      cases k with
      | int k =>
        cases d with
        | int k' m =>
          simp only [zerosK] at h
          by_cases e : k = k' ∧ m = 0
          · obtain ⟨rfl, rfl⟩ := e
            simp at h
            exact ⟨v, vs', rfl, by simp only [mcellA, real, hm]; exact hv, zk_rel hn ks z vs' (j + 1) h r⟩
          · have : (decide (k = k') && decide (m = 0)) = false := by
              rw [Bool.and_eq_false_iff]
              by_cases e1 : k = k'
              · right; simpa using fun e2 => e ⟨e1, e2⟩
              · left; simpa using e1
            rw [this] at h
            cases h
        | _ => simp [zerosK] at h
      | bool =>
        cases d with
        | bool b =>
          cases b with
          | true => simp [zerosK] at h
          | false =>
            simp [zerosK] at h
            exact ⟨v, vs', rfl, by simp only [mcellA, real, hm]; exact hv, zk_rel hn ks z vs' (j + 1) h r⟩
        | _ => simp [zerosK] at h
      | str =>
        cases d with
        | str s =>
          cases s with
          | nil =>
            simp only [zerosK] at h
            exact ⟨v, vs', rfl, by simp only [mcellA, real, hm]; exact hv, zk_rel hn ks z vs' (j + 1) h r⟩
          | cons x s => simp [zerosK] at h
        | _ => simp [zerosK] at h
      | _ => simp [zerosK] at h
theorem val_rel {l : List (Int × Value)} {key : Int} {agg : Bool} {ks : List Kd} {v : Value} (hl : Mk.look l key = some v) (ho : valOk ks agg v = true) (hk : agg = false → ∃ k, ks = [k]) : RelV ρ w M (mvalA real agg ks l key) v := by
  have hm : ∀ j, mcell l key j = v.cells.toList[j]? := fun j => by simp [mcell, hl]
  cases agg with
  | true =>
    cases v with
    | agg cs => exact ⟨cs, rfl, cv_rel ks _ 0 ho fun i => by rw [Nat.zero_add]; exact hm i⟩
    | _ => simp [valOk] at ho
  | false =>
    obtain ⟨k, rfl⟩ := hk rfl
    have h1 : cvOk [k] [v] = true ∧ v.cells.toList = [v] := by
      cases v <;> first | exact ⟨ho, rfl⟩ | (simp [valOk] at ho)
    obtain ⟨x, r, e, hx, -⟩ := cv_rel (w := w) (M := M) (l := l) (key := key) [k] [v] 0 h1.1 fun i => by rw [Nat.zero_add, hm, h1.2]
    cases e
    exact hx
theorem look_mem' {l : List (Int × Value)} {key : Int} {v : Value} (h : Mk.look l key = some v) : ∃ p ∈ l, p.2 = v := by
  unfold Mk.look at h
  rw [Option.map_eq_some_iff] at h
  obtain ⟨p, h1, h2⟩ := h
  exact ⟨p, List.mem_of_find?_eq_some h1, h2⟩
theorem mok_at {l : List (Int × Value)} {ks : List Kd} {agg : Bool} (h : real.mok l ks agg = true) {p : Int × Value} (hp : p ∈ l) : valOk ks agg p.2 = true := by
  simp only [real, List.all_eq_true] at h
  exact h p hp
/-- The zero value of an element. -/
theorem zero_rel (hT : TysOK P T) {e : Nat} (he : eltOk T e = true) {l : List (Int × Value)} {key : Int} (hn : Mk.look l key = none) : ∃ z, (zeroValue e).run P w = .ok z w ∧ RelV ρ w M (mvalA real (isAggT (T e)) (kinds T 8 e) l key) z := by
  simp only [eltOk, Ab.ty, Bool.and_eq_true] at he
  obtain ⟨⟨⟨h1, h2⟩, h3⟩, h4⟩ := he
  have hs0 : (T e).size ≠ 0 := by have := Nat.le_of_ble_eq_true h4; omega
  cases hz : (T e).zero with
  | none => rw [hz] at h3; cases h3
  | some z =>
    rw [hz] at h3
    obtain ⟨i, v, hi, hv, hzd, -⟩ := hT.zero hs0 hz
    have hr := zeroD_rel (w := w) (M := M) hzd
    obtain ⟨g1, g2⟩ := hT.zsh e hs0
    have hrun : (zeroValue e).run P w = .ok v w := by simp [zeroValue, typeInfo, hi, hv]
    refine ⟨v, hrun, ?_⟩
    have hc := zk_rel hn (kinds T 8 e) z _ 0 h3 hr
    have hsh : zshape P e = (match v with | .agg _ => isAggT (tiOf P e) | _ => !isAggT (tiOf P e)) := by
      simp only [zshape, hi, Option.bind_some, hv]
      cases v <;> rfl
    rw [hsh] at g1
    rw [g2] at h2 ⊢
    cases ha : isAggT (tiOf P e) with
    | true =>
      rw [ha] at g1
      cases v with
      | agg cs => exact ⟨cs, rfl, hc⟩
      | _ => simp at g1
    | false =>
      rw [ha] at g1 h2
      have hk : ∃ k, kinds T 8 e = [k] := by
        match hks : kinds T 8 e, h2 with
        | [k], _ => exact ⟨k, rfl⟩
        | [], h2 => simp at h2
        | _ :: _ :: _, h2 => simp at h2
      obtain ⟨k, hk⟩ := hk
      rw [hk] at hc ⊢
      have hv1 : v.cells.toList = [v] := by cases v <;> first | rfl | (simp at g1)
      rw [hv1] at hc
      obtain ⟨x, r, e1, hx, -⟩ := hc
      cases e1
      exact hx
theorem elt_one {e : Nat} (he : eltOk T e = true) (ha : isAggT (T e) = false) : ∃ k, kinds T 8 e = [k] := by
  simp only [eltOk, Ab.ty, Bool.and_eq_true] at he
  obtain ⟨⟨⟨h1, h2⟩, h3⟩, h4⟩ := he
  rw [ha] at h2
  match hks : kinds T 8 e, h2 with
  | [k], _ => exact ⟨k, rfl⟩
  | [], h2 => simp at h2
  | _ :: _ :: _, h2 => simp at h2
/-- The zero value of a slice. -/
theorem zero_sl (hT : TysOK P T) {e e' : Nat} (hu : (T e).u = .slice e') (h4 : Nat.blt 0 (T e).size = true) (hz : (T e).zero = some [.nilsl]) (w : World) : (zeroValue e).run P w = .ok (.slice none 0 0) w := by
  have hs0 : (T e).size ≠ 0 := by have := Nat.le_of_ble_eq_true h4; omega
  obtain ⟨i, v, hi, hv, hzd, -⟩ := hT.zero hs0 hz
  have hr := zeroD_rel (w := w) (M := fun _ => False) hzd
  obtain ⟨g1, g2⟩ := hT.zsh e hs0
  have hrun : (zeroValue e).run P w = .ok v w := by simp [zeroValue, typeInfo, hi, hv]
  have hsh : zshape P e = (match v with | .agg _ => isAggT (tiOf P e) | _ => !isAggT (tiOf P e)) := by
    simp only [zshape, hi, Option.bind_some, hv]
    cases v <;> rfl
  have ha : isAggT (tiOf P e) = false := by
    rw [← g2]
    unfold isAggT
    rw [hu]
  rw [hsh, ha] at g1
  have hv1 : v.cells.toList = [v] := by cases v <;> first | rfl | (simp at g1)
  rw [hv1] at hr
  obtain ⟨x, r, e1, hx, -⟩ := hr
  cases e1
  rw [hrun, show v = .slice none 0 0 from hx]
theorem slCase_spec {e : Nat} {ok : Bool} (h : slCase T e ok = true) : ∃ e', (T e).u = .slice e' ∧ ok = false ∧ (T e).zero = some [.nilsl] ∧ Nat.blt 0 (T e).size = true := by
  unfold slCase Ab.ty at h
  split at h
  · rename_i e' h1 h2
    exact ⟨e', h1, rfl, h2, h⟩
  · cases h
theorem mraw_sl {l : List (Int × Value)} (h : slOk l) (key : Int) : ∃ a n cap, mraw l key = .slice a n cap := by
  unfold mraw
  cases hl : Mk.look l key with
  | none => exact ⟨_, _, _, rfl⟩
  | some v =>
    obtain ⟨p, hp, rfl⟩ := look_mem' hl
    exact h p hp
theorem mlook_gives (hT : TysOK P T) {st : St} {a : Act} {t : Nat} {m x : AV} {vm vx : Value} {ok : Bool} {K : AV → Prop} (hs : RepS ρ st a w) (hm : RelV ρ w (Mut ρ st.h) m vm) (hx : RelV ρ w (Mut ρ st.h) x vx)
    (h : mlookA T real st t m x ok K) : Gives P ρ w (Mut ρ st.h) K (Instr.lookup t vm vx ok) := by
  unfold mlookA Ab.ty at h
  split at h
  case h_2 => exact h.elim
  rename_i kt e hu
  split at h
  case h_2 => exact h.elim
  rename_i k k' l hk hmo
  cases hky : keyOf k x with
  | none => rw [hky] at h; exact h.elim
  | some key =>
    rw [hky] at h
    dsimp only at h
    cases hsc : slCase T e ok with
    | true =>
      rw [hsc] at h
      obtain ⟨e', he, rfl, hz, hsz⟩ := slCase_spec hsc
      obtain ⟨rfl, ⟨hsl⟩, h⟩ := h
      obtain ⟨r, rfl, him⟩ := mapOf_rel hs hm hmo
      obtain rfl := keyOf_rel hx hky
      have hrun := Mk.run_lookup him (hT.map hu) (hT.int hk) (zero_sl hT he hsz hz w) key false
      exact ⟨_, _, h.h _ rfl, ⟨rfl, mraw_sl hsl key⟩, hrun⟩
    | false =>
    rw [hsc] at h
    dsimp only at h
    have hh := bif_true h not_false
    clear h
    obtain ⟨hc, hok, h⟩ := hh
    rw [Bool.and_eq_true, decide_eq_true_eq] at hc
    obtain ⟨rfl, he⟩ := hc
    obtain ⟨r, rfl, him⟩ := mapOf_rel hs hm hmo
    obtain rfl := keyOf_rel hx hky
    have key' : ∀ z, (zeroValue e).run P w = .ok z w → (Mk.look l key = none → RelV ρ w (Mut ρ st.h) (mvalA real (isAggT (T e)) (kinds T 8 e) l key) z) → Gives P ρ w (Mut ρ st.h) K (Instr.lookup t (.map (some r)) (.int k key) ok) := by
      intro z hz hzr
      have hrun := Mk.run_lookup him (hT.map hu) (hT.int hk) hz key ok
      have hv : RelV ρ w (Mut ρ st.h) (mvalA real (isAggT (T e)) (kinds T 8 e) l key) ((Mk.look l key).getD z) := by
        cases hl : Mk.look l key with
        | none => exact hzr hl
        | some v =>
          obtain ⟨p, hp, rfl⟩ := look_mem' hl
          exact val_rel hl (mok_at hok hp) (elt_one he)
      cases ok with
      | false => exact ⟨_, _, h, hv, hrun⟩
      | true => exact ⟨_, _, h, ⟨_, rfl, _, _, rfl, hv, _, _, rfl, rfl, rfl⟩, hrun⟩
    cases hl : Mk.look l key with
    | none =>
      obtain ⟨z, hz, hr⟩ := zero_rel (w := w) (ρ := ρ) (M := Mut ρ st.h) hT he hl
      exact key' z hz fun _ => hr
    | some v =>
      obtain ⟨z, hz, -⟩ := zero_rel (w := w) (ρ := ρ) (M := Mut ρ st.h) (l := []) (key := key) hT he rfl
      exact key' z hz fun e => by rw [hl] at e; cases e
theorem mkmap_next {st : St} {a : Act} {t : Nat} {k : IntKind} {K : St → AV → Prop} (hs : RepS ρ st a w) (h : K { st with n := st.n + 1, h := st.h ++ [(st.n, .mp k [])] } (.map st.n)) : Nexts P ρ st w K (Instr.makeMap t none) :=
  nexts_new (av := .map st.n) (v := .map (some w.heap.size)) (pv := .map (some w.heap.size)) (o := .mp k []) hs (grows_alloc w (.map #[] 0)) rfl rfl rfl (alloc_size _ _) (by simp [Instr.makeMap, newObj, Sem.run]) (fun b hb => by simp [blkIn, blkOf] at hb; omega)
    (fun _ => ⟨w.heap.size, upd_same _ _ _, Mk.IMap.made (Tr.blk_new w _)⟩) ⟨upd_same _ _ _, _, rfl⟩ h
theorem dval_rel {d : D} {v x : Value} (h : dval d = some v) (r : RelD w M d x) : x = v := by
  cases d <;> simp [dval] at h <;> subst h <;> first | exact r | (obtain rfl := (show x = _ from r); rfl)
theorem dvals_rel : ∀ (l : List D) (vs xs : List Value), dvals l = some vs → RelDs w M l xs → xs = vs
  | [], vs, xs, h, r => by simp [dvals] at h; subst h; exact r
  | d :: l, vs, xs, h, ⟨v, rest, hv, r1, r2⟩ => by
    simp only [dvals] at h
    cases h1 : dval d with
    | none => simp [h1] at h
    | some y =>
      cases h2 : dvals l with
      | none => simp [h1, h2] at h
      | some ys =>
        simp only [h1, h2, Option.some.injEq] at h
        subst h
        rw [hv, dval_rel h1 r1, dvals_rel l ys rest h2 r2]
theorem valA_rel {x : AV} {v y : Value} (h : valA x = some v) (r : RelV ρ w M x y) : y = v := by
  unfold valA at h
  split at h
  · rename_i l
    cases h1 : dvals l with
    | none => simp [h1] at h
    | some vs =>
      simp only [h1, Option.some.injEq] at h
      obtain ⟨cs, rfl, r⟩ := r
      have := dvals_rel l vs _ h1 r
      rw [← h, ← this]
  · rename_i l
    cases h0 : dsOf l with
    | none => simp [h0] at h
    | some ds =>
      cases h1 : dvals ds with
      | none => simp [h0, h1] at h
      | some vs =>
        simp only [h0, h1, Option.some.injEq] at h
        obtain ⟨cs, rfl, r⟩ := r
        have e := dsOf_map _ _ h0
        subst e
        have := dvals_rel ds vs _ h1 (rels_dsM ds _ r)
        rw [← h, ← this]
  · exact dval_rel h r
  · cases h
    exact r.1
  · cases h
where
  rels_dsM : ∀ (ds : List D) (vs : List Value), RelVs ρ w M (ds.map .d) vs → RelDs w M ds vs
    | [], vs, h => h
    | d :: ds, vs, ⟨v, r, hv, h1, h2⟩ => ⟨v, r, hv, h1, rels_dsM ds r h2⟩
theorem mupd_next (hT : TysOK P T) {st : St} {a : Act} {t : Nat} {m x y : AV} {vm vx vy : Value} {K : St → Prop} (hs : RepS ρ st a w) (hm : RelV ρ w (Mut ρ st.h) m vm) (hx : RelV ρ w (Mut ρ st.h) x vx) (hy : RelV ρ w (Mut ρ st.h) y vy)
    (h : mupdA T real st t m x y K) : ∃ w' n' h', (Instr.mapUpdate t vm vx vy).run P w = .ok () w' ∧ K { st with n := n', h := h' } ∧ Rep ρ n' h' w' ∧ st.n ≤ n' ∧ Goes st.n ρ st.h w ρ h' w' := by
  unfold mupdA Ab.ty at h
  split at h
  case h_2 => exact h.elim
  rename_i kt e id hu
  split at h
  case h_2 => exact h.elim
  rename_i k k' l hk ho
  split at h
  case h_2 => exact h.elim
  rename_i key val hky hva
  have hh := bif_true h not_false
  clear h
  obtain ⟨hc, h⟩ := hh
  rw [decide_eq_true_eq] at hc
  subst hc
  obtain ⟨b, h1, h2⟩ := obj_mp hs.rep ho
  obtain ⟨h3, -⟩ := hm
  rw [h1] at h3
  obtain rfl := Option.some.inj h3
  obtain rfl := keyOf_rel hx hky
  obtain rfl := valA_rel hva hy
  obtain ⟨w', hrun, g1, g2, g3⟩ := Mk.run_update h2 (hT.map hu) (hT.int hk) key vy
  have hw : ∀ j, j ≠ b → w'.heap[j]? = w.heap[j]? := fun j hj => by
    rcases Nat.lt_or_ge j w.heap.size with hl | hl
    · exact g2.block j hl hj
    · rw [Array.getElem?_eq_none hl, Array.getElem?_eq_none (by rw [g3]; exact hl)]
  exact ⟨w', st.n, _, hrun, h, hs.rep.set (hget_mem ho) h1 rfl hw (fun _ => ⟨b, h1, g1⟩), Nat.le_refl _, goes_set hs.rep (hget_mem ho) h1 rfl hw g2.os g2.tape g2.output g3⟩
theorem run_delete {κ : IntKind} {t kt e t2 : TypeId} {r : Nat} {l : List (Int × Value)} (h : Mk.IMap κ w r l) (ht : P.underlying t = some (.map kt e)) (hK : P.underlying kt = some (.int κ)) (k : Int) (ty : TypeId) :
    ∃ w', (Builtin.delete_ #[t, t2] ty #[.map (some r), .int κ k]).run P w = .ok (.tuple #[]) w' ∧ Mk.IMap κ w' r (Mk.del l k) ∧ Tr.Chg r w w' ∧ w'.heap.size = w.heap.size := by
  obtain ⟨hn, E, clock, hb, hE, hbn, hlt⟩ := h
  have hg : (getObj r).run P w = .ok (.map E clock) w := by simp [getObj, Sem.run, hb]
  have hs : ∀ o : Obj, (Go.setObj r o).run P w = .ok () (Go.ChangeMaps.setBlock w r o) := fun o => by simp [Go.setObj, Sem.run, hb, Go.ChangeMaps.setBlock]
  have hc : (Instr.checkKey E.isEmpty 10000 kt (.int κ k)).run P w = .ok () w := Mk.run_checkKey hK _ 9999 k w
  have hf := Mk.run_findKey hK k E.toList l hE w
  cases hx : l.findIdx? (·.1 == k) with
  | none =>
    rw [hx] at hf
    refine ⟨Go.ChangeMaps.setBlock w r (.map E clock), ?_, ⟨?_, E, clock, Mk.blk_setBlock hb, ?_, hbn, hlt⟩, Mk.chg_setBlock _, by simp [Go.ChangeMaps.setBlock]⟩
    · unfold Builtin.delete_
      simp [run_underlying ht, hg, hc, hf, hs, Result.andThen]
    · unfold Mk.del; rw [hx]; exact hn
    · unfold Mk.del; rw [hx]; exact hE
  | some i =>
    obtain ⟨hi, hk, _⟩ := List.findIdx?_eq_some_iff_getElem.1 hx
    have hlen : E.size = l.length := by have := congrArg List.length hE; simpa using this
    have hiE : i < E.size := by omega
    have hsub : (E.eraseIdxIfInBounds i).toList = E.toList.eraseIdx i := by
      unfold Array.eraseIdxIfInBounds
      rw [dif_pos hiE]
      simp
    have her : ∀ {α β : Type} (f : α → β) (L : List α) (j : Nat), (L.eraseIdx j).map f = (L.map f).eraseIdx j := by
      intro α β f L
      induction L with
      | nil => intro j; rfl
      | cons a L ih => intro j; cases j with
        | zero => rfl
        | succ j => simp [ih j]
    rw [hx] at hf
    refine ⟨Go.ChangeMaps.setBlock w r (.map (E.eraseIdxIfInBounds i) clock), ?_, ⟨?_, _, clock, Mk.blk_setBlock hb, ?_, ?_, ?_⟩, Mk.chg_setBlock _, by simp [Go.ChangeMaps.setBlock]⟩
    · unfold Builtin.delete_
      simp [run_underlying ht, hg, hc, hf, hs, Result.andThen, List.getElem?_eq_getElem hi]
    · unfold Mk.del; rw [hx]
      dsimp only
      rw [her]
      exact hn.sublist (List.eraseIdx_sublist _ _)
    · unfold Mk.del; rw [hx, hsub]
      dsimp only
      rw [her, her, hE]
    · rw [hsub, her]
      exact hbn.sublist (List.eraseIdx_sublist _ _)
    · intro x hx'
      rw [hsub] at hx'
      exact hlt x ((List.eraseIdx_sublist _ _).subset hx')
theorem mdel_next (hT : TysOK P T) {st : St} {a : Act} {t t2 : Nat} {m x : AV} {vm vx : Value} {ty : TypeId} {K : St → AV → Prop} (hs : RepS ρ st a w) (hm : RelV ρ w (Mut ρ st.h) m vm) (hx : RelV ρ w (Mut ρ st.h) x vx)
    (h : mdelA T real st t m x K) : Nexts P ρ st w K (Builtin.delete_ #[t, t2] ty #[vm, vx]) := by
  unfold mdelA Ab.ty at h
  split at h
  case h_2 => exact h.elim
  rename_i kt e id hu
  split at h
  case h_2 => exact h.elim
  rename_i k k' l hk ho
  split at h
  case h_2 => exact h.elim
  rename_i key hky
  have hh := bif_true h not_false
  clear h
  obtain ⟨hc, h⟩ := hh
  rw [decide_eq_true_eq] at hc
  subst hc
  obtain ⟨b, h1, h2⟩ := obj_mp hs.rep ho
  obtain ⟨h3, -⟩ := hm
  rw [h1] at h3
  obtain rfl := Option.some.inj h3
  obtain rfl := keyOf_rel hx hky
  obtain ⟨w', hrun, g1, g2, g3⟩ := run_delete (t2 := t2) h2 (hT.map hu) (hT.int hk) key ty
  have hw : ∀ j, j ≠ b → w'.heap[j]? = w.heap[j]? := fun j hj => by
    rcases Nat.lt_or_ge j w.heap.size with hl | hl
    · exact g2.block j hl hj
    · rw [Array.getElem?_eq_none hl, Array.getElem?_eq_none (by rw [g3]; exact hl)]
  exact ⟨_, w', .tup [], ρ, st.n, _, hrun, h, hs.rep.set (hget_mem ho) h1 rfl hw (fun _ => ⟨b, h1, g1⟩), ⟨#[], rfl, rfl⟩, Nat.le_refl _, goes_set hs.rep (hget_mem ho) h1 rfl hw g2.os g2.tape g2.output g3⟩
theorem mlen_gives (hT : TysOK P T) {st : St} {a : Act} {b : Builtin} {ts : List Nat} {args : List AV} {vs : List Value} {l : List (Int × Value)} {ty : TypeId} {K : AV → Prop} (hs : RepS ρ st a w) (hr : RelVs ρ w (Mut ρ st.h) args vs) (h : mapLen T st b ts args = some l)
    (hK : K (.d (.int .i64 (real.mlen l)))) : b = .len ∧ ∃ t rest x v, ts = t :: rest ∧ args = [x] ∧ vs = [v] ∧ Gives P ρ w (Mut ρ st.h) K (Builtin.len_ ts.toArray ty vs.toArray) := by
  unfold mapLen Ab.ty at h
  split at h
  case h_2 => cases h
  rename_i t rest x
  split at h
  case h_2 => cases h
  rename_i kt e hu
  split at h
  case h_2 => cases h
  rename_i k l' hmo
  cases h
  obtain ⟨v, r, rfl, hx, hr⟩ := hr
  obtain rfl : r = [] := hr
  obtain ⟨b, rfl, him⟩ := mapOf_rel hs hx hmo
  obtain ⟨E, clock, hb, hE⟩ := him.size
  refine ⟨rfl, t, rest, x, _, rfl, rfl, rfl, _, _, hK, rfl, ?_⟩
  have hg : (getObj b).run P w = .ok (.map E clock) w := by simp [getObj, Sem.run, hb]
  simp [Builtin.len_, run_underlying (hT.map hu), goInt, real, hg, hE]
theorem range_next (hT : TysOK P T) {st : St} {a : Act} {t kt e : Nat} {k : IntKind} {l : List (Int × Value)} {v : Value} {K : St → AV → Prop} (hs : RepS ρ st a w) (hu : (T t).u = .map kt e) (hx : RelV ρ w (Mut ρ st.h) (.d (.fm k l)) v)
    (h : K { st with n := st.n + 1, h := st.h ++ [(st.n, .it k e l none)] } (.iter st.n)) : Nexts P ρ st w K (Instr.range t v) := by
  obtain ⟨r, rfl, him, hn⟩ := hx
  obtain ⟨w', hrun, h1, h2⟩ := Mk.run_range him (hT.map hu)
  have hg : Grows w w' := fun b o hbo => by rw [h2.block b (lt_of_get hbo)]; exact hbo
  have hr : r < w.heap.size := him.lt
  refine nexts_new (av := .iter st.n) (v := .pointer (some ⟨w.heap.size, 0, none⟩)) (pv := .pointer (some ⟨w.heap.size, 0, none⟩)) (o := .it k e l none) hs hg h2.os h2.tape h2.output h2.size hrun (fun b hb => by simp [blkIn, blkOf] at hb; omega)
    (fun hk => ⟨w.heap.size, r, upd_same _ _ _, h1.c, ?_⟩) ⟨upd_same _ _ _, _, rfl⟩ h
  obtain ⟨_, E, c, hb, -⟩ := him
  exact (hk r _ hb hn).2
theorem next_next (hT : TysOK P T) {st : St} {a : Act} {x : AV} {v : Value} {ty : TypeId} {K : St → AV → Prop} (hs : RepS ρ st a w) (hx : RelV ρ w (Mut ρ st.h) x v) (h : nextA T real st x K) : Nexts P ρ st w K (Instr.next v false ty) := by
  unfold nextA Ab.ty at h
  split at h
  case h_2 => exact h.elim
  rename_i id
  split at h
  case h_2 => exact h.elim
  rename_i k e l c0 ho
  split at h
  · rename_i e' he
    obtain ⟨⟨hsl⟩, hdone, hmore⟩ := h
    obtain ⟨b, r, h1, h2, h3⟩ := obj_it hs.rep ho
    obtain ⟨h4, -⟩ := hx
    rw [h1] at h4
    obtain rfl := Option.some.inj h4
    rcases Mk.run_next (P := P) h2.it ty with ⟨h0, hrun⟩ | ⟨⟨key, val⟩, l', w', hperm, hrun, hit, ⟨hch, hsz⟩, -⟩
    · exact ⟨_, w, _, ρ, st.n, st.h, hrun, hdone.h () h0, hs.rep, ⟨_, rfl, _, _, rfl, rfl, rfl⟩, Nat.le_refl _, Goes.refl _ _ _ _⟩
    · have hp : (key, val) ∈ l := hperm.mem_iff.2 (by simp)
      have hK := hmore.h ((key, val), l') hperm
      have hw : ∀ j, j ≠ b → w'.heap[j]? = w.heap[j]? := fun j hj => by
        rcases Nat.lt_or_ge j w.heap.size with hl | hl
        · exact hch.block j hl hj
        · rw [Array.getElem?_eq_none hl, Array.getElem?_eq_none (by rw [hsz]; exact hl)]
      refine ⟨_, w', _, ρ, st.n, _, hrun, hK, hs.rep.set (hget_mem ho) h1 rfl hw (fun hk => ⟨b, r, h1, hit, ?_⟩), ⟨_, rfl, _, _, rfl, rfl, _, _, rfl, rfl, _, _, rfl, ⟨rfl, hsl _ hp⟩, rfl⟩, Nat.le_refl _, goes_set hs.rep (hget_mem ho) h1 rfl hw hch.os hch.tape hch.output hsz⟩
      obtain ⟨E, c, s, g1, g2⟩ := h2
      exact (hk r _ g1 h3).2
  obtain ⟨he, ⟨hok, hdone⟩, hmore⟩ := bif_true h not_false
  obtain ⟨b, r, h1, h2, h3⟩ := obj_it hs.rep ho
  obtain ⟨h4, -⟩ := hx
  rw [h1] at h4
  obtain rfl := Option.some.inj h4
  rcases Mk.run_next (P := P) h2.it ty with ⟨h0, hrun⟩ | ⟨⟨key, val⟩, l', w', hperm, hrun, hit, ⟨hch, hsz⟩, -⟩
  · exact ⟨_, w, _, ρ, st.n, st.h, hrun, hdone.h () h0, hs.rep, ⟨_, rfl, _, _, rfl, rfl, rfl⟩, Nat.le_refl _, Goes.refl _ _ _ _⟩
  · have hp : (key, val) ∈ l := hperm.mem_iff.2 (by simp)
    have hK := hmore.h ((key, val), l') hperm
    have hw : ∀ j, j ≠ b → w'.heap[j]? = w.heap[j]? := fun j hj => by
      rcases Nat.lt_or_ge j w.heap.size with hl | hl
      · exact hch.block j hl hj
      · rw [Array.getElem?_eq_none hl, Array.getElem?_eq_none (by rw [hsz]; exact hl)]
    have hl1 : Mk.look [(key, val)] key = some val := by simp [Mk.look]
    refine ⟨_, w', _, ρ, st.n, _, hrun, hK, hs.rep.set (hget_mem ho) h1 rfl hw (fun hk => ⟨b, r, h1, hit, ?_⟩), ⟨_, rfl, _, _, rfl, rfl, _, _, rfl, rfl, _, _, rfl, val_rel hl1 (mok_at hok hp) (elt_one he), rfl⟩, Nat.le_refl _, goes_set hs.rep (hget_mem ho) h1 rfl hw hch.os hch.tape hch.output hsz⟩
    obtain ⟨E, c, s, g1, g2⟩ := h2
    exact (hk r _ g1 h3).2
theorem entry_gives (hT : TysOK P T) {st : St} {a : Act} {x : AV} {v : Value} {K : AV → Prop} (hs : RepS ρ st a w) (hx : RelV ρ w (Mut ρ st.h) x v) (h : entryA T real st x K) : Gives P ρ w (Mut ρ st.h) K (Instr.entry v) := by
  unfold entryA Ab.ty at h
  split at h
  case h_2 => exact h.elim
  rename_i id
  split at h
  case h_2 => exact h.elim
  rename_i k e l p ho
  split at h
  · rename_i e' he
    obtain ⟨⟨hsl⟩, hK⟩ := h
    obtain ⟨b, r, h1, h2, h3⟩ := obj_it hs.rep ho
    obtain ⟨h4, -⟩ := hx
    rw [h1] at h4
    obtain rfl := Option.some.inj h4
    exact ⟨_, _, hK, ⟨_, rfl, _, _, rfl, rfl, _, _, rfl, ⟨rfl, hsl p (by simp)⟩, rfl⟩, h2.entry P⟩
  obtain ⟨he, hok, hK⟩ := bif_true h not_false
  obtain ⟨b, r, h1, h2, h3⟩ := obj_it hs.rep ho
  obtain ⟨h4, -⟩ := hx
  rw [h1] at h4
  obtain rfl := Option.some.inj h4
  have hl1 : Mk.look [p] p.1 = some p.2 := by simp [Mk.look]
  exact ⟨_, _, hK, ⟨_, rfl, _, _, rfl, rfl, _, _, rfl, val_rel hl1 (mok_at hok (by simp)) (elt_one he), rfl⟩, h2.entry P⟩
theorem srange_next (hT : TysOK P T) {st : St} {a : Act} {t : Nat} {s : List UInt8} {v : Value} {K : St → AV → Prop} (hs : RepS ρ st a w) (hu : (T t).u = .str) (hx : RelV ρ w (Mut ρ st.h) (.d (.str s)) v)
    (h : K { st with n := st.n + 1, h := st.h ++ [(st.n, .sit s 0)] } (.iter st.n)) : Nexts P ρ st w K (Instr.range t v) := by
  obtain rfl : v = .string ⟨s.toArray⟩ := hx
  refine nexts_new (av := .iter st.n) (v := .pointer (some ⟨w.heap.size, 0, none⟩)) (pv := .pointer (some ⟨w.heap.size, 0, none⟩)) (o := .sit s 0) hs (grows_alloc w (.stringIter ⟨s.toArray⟩ 0)) rfl rfl rfl (alloc_size _ _) ?_ (fun b hb => by simp [blkIn, blkOf] at hb; omega)
    (fun hk => ⟨w.heap.size, upd_same _ _ _, Int.le_refl _, Tr.blk_new w _⟩) ⟨upd_same _ _ _, _, rfl⟩ h
  unfold Instr.range
  rw [Sem.run_bind, run_underlying (hT.str hu) w]
  simp [Result.andThen, newObj, Sem.run]
theorem snext_next {st : St} {a : Act} {x : AV} {v : Value} {ty : TypeId} {K : St → AV → Prop} (hs : RepS ρ st a w) (hx : RelV ρ w (Mut ρ st.h) x v) (h : snextA real st x K) : Nexts P ρ st w K (Instr.next v true ty) := by
  unfold snextA at h
  split at h
  case h_2 => exact h.elim
  rename_i id
  split at h
  case h_2 => exact h.elim
  rename_i s p ho
  obtain ⟨b, h1, h2, h3⟩ : ∃ b, ρ id = some (.pointer (some ⟨b, 0, none⟩)) ∧ 0 ≤ p ∧ w.heap[b]? = some (.stringIter ⟨s.toArray⟩ p.toNat) := hs.rep.objs id _ (hget_mem ho)
  obtain ⟨h4, -⟩ := hx
  rw [h1] at h4
  obtain rfl := Option.some.inj h4
  have hsz : (ByteArray.mk s.toArray).size = s.length := by simp [ByteArray.size]
  have hgo : (getObj b).run P w = .ok (.stringIter ⟨s.toArray⟩ p.toNat) w := by simp [getObj, Sem.run, h3]
  cases h with
  | yes hb hK =>
    have hlt : p.toNat < s.length := by simpa [real] using hb
    have hw : ∀ j, j ≠ b → (Go.ChangeMaps.setBlock w b (.stringIter ⟨s.toArray⟩ (p.toNat + (Utf8.decode ⟨s.toArray⟩ p.toNat).2))).heap[j]? = w.heap[j]? := fun j hj => by simp [Go.ChangeMaps.setBlock, Array.getElem?_setIfInBounds, Ne.symm hj]
    refine ⟨_, Go.ChangeMaps.setBlock w b (.stringIter ⟨s.toArray⟩ (p.toNat + (Utf8.decode ⟨s.toArray⟩ p.toNat).2)), _, ρ, st.n, _, ?_, hK, hs.rep.set (hget_mem ho) h1 rfl hw (fun hk => ⟨b, h1, ?_, ?_⟩), ⟨_, rfl, _, _, rfl, rfl, _, _, rfl, rfl, _, _, rfl, rfl, rfl⟩, Nat.le_refl _, goes_set hs.rep (hget_mem ho) h1 rfl hw rfl rfl rfl (by simp [Go.ChangeMaps.setBlock])⟩
    · unfold Instr.next
      simp only [Sem.run_bind, hgo, Result.andThen, hsz, hlt, if_true]
      have e : ((p.toNat : Nat) : Int) = p := by omega
      simp [Go.setObj, Sem.run, h3, Go.ChangeMaps.setBlock, goInt, e, real]
    · simp only [real]; omega
    · simp only [real, Int.toNat_natCast]
      exact Mk.blk_setBlock h3
  | no hb hK =>
    have hlt : ¬ p.toNat < s.length := by simpa [real] using hb
    refine ⟨_, w, _, ρ, st.n, st.h, ?_, hK, hs.rep, ⟨_, rfl, _, _, rfl, rfl, rfl⟩, Nat.le_refl _, Goes.refl _ _ _ _⟩
    unfold Instr.next
    simp only [Sem.run_bind, hgo, Result.andThen, hsz, hlt, if_false]
    rfl
end
end Go.Proofs.Yteakfibolfapiaa.Ab
end
