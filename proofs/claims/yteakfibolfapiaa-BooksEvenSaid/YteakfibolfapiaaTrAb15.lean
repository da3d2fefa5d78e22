/- The executor is sound: slice literals, new places, equality, what is built in. -/
import Derived.Test.YteakfibolfapiaaTrAb14
namespace Go.Proofs.Yteakfibolfapiaa.Ab
open Go.RowKit Go.Sort
set_option linter.unusedVariables false
set_option linter.unusedSimpArgs false

section
variable {P : Program} {T : Nat → TI} {ρ : Env} {w w' : World} {M : Nat → Prop} {n : Nat} {h : Hp}
theorem made_list (z : Array Value) (h0 : 0 < z.size) : ∀ n : Nat, (madeCells z (n * z.size)).toList = (List.replicate n z.toList).flatten
  | 0 => by simp [madeCells]
  | n + 1 => by
    have ih := made_list z h0 n
    rw [List.replicate_succ', List.flatten_append]
    rw [← ih]
    unfold madeCells
    simp only [Array.toList_map, Array.toList_range, Nat.add_mul, Nat.one_mul, List.range_add, List.map_append, List.map_map, List.flatten_cons, List.flatten_nil, List.append_nil]
    congr 1
    apply List.ext_getElem?
    intro k
    by_cases hk : k < z.size
    · have e : (n * z.size + k) % z.size = k := by rw [Nat.add_comm, Nat.add_mul_mod_self_right, Nat.mod_eq_of_lt hk]
      rw [List.getElem?_map, List.getElem?_range hk]
      simp [e, hk]
    · rw [List.getElem?_eq_none (by simp; omega), List.getElem?_eq_none (by simp; omega)]
theorem flat_rel {z : List AV} {zs : List Value} (hz : RelVs ρ w M z zs) : ∀ n : Nat, RelVs ρ w M (List.replicate n z).flatten (List.replicate n zs).flatten
  | 0 => rfl
  | n + 1 => by
    rw [List.replicate_succ, List.replicate_succ, List.flatten_cons, List.flatten_cons]
    exact RelVs.append _ _ _ _ hz (flat_rel hz n)
theorem chunks_rel {c : Nat} : ∀ (n : Nat) (ds : List D) (xs : List Value), ds.length = n * c → RelDs w M ds xs → RelRows w M (chunks c n ds) xs ∧ (chunks c n ds).length = n ∧ ∀ r ∈ chunks c n ds, r.length = c
  | 0, ds, xs, hl, h => ⟨trivial, rfl, by simp [chunks]⟩
  | n + 1, ds, xs, hl, h => by
    rw [Nat.add_mul, Nat.one_mul] at hl
    obtain ⟨h1, h2, h3⟩ := chunks_rel (c := c) n (ds.drop c) (xs.drop c) (by rw [List.length_drop]; omega) (RelDs.drop _ _ h c)
    have hlen : (ds.take c).length = c := by rw [List.length_take]; omega
    refine ⟨⟨by rw [hlen]; exact RelDs.take _ _ h c, by rw [hlen]; exact h1⟩, by simp [chunks, h2], ?_⟩
    intro r hr
    simp only [chunks, List.mem_cons] at hr
    rcases hr with rfl | hr
    · exact hlen
    · exact h3 r hr
/-- What a slice literal makes: its cells, in a new block. -/
theorem bslice_run (hT : TysOK P T) {K : List (List D) → Nat → Prop} {st : St} {a : Act} {t len : Nat} {ps : List (Nat × Operand)} (hs : RepS ρ st a w) (h : bsliceA T t len (evp st ps) K) :
    ∃ e c l cs, K l c ∧ 0 < c ∧ l.length = len ∧ len ≤ maxLen ∧ (∀ r ∈ l, r.length = c) ∧ RelRows w (Mut ρ st.h) l cs.toList ∧ cs.size = len * c ∧
      (Instr.buildSlice t len (ps.map fun p => (p.1, a.eval p.2)).toArray).run P w = .ok (.slice (some ⟨w.heap.size, 0, none⟩) len len) (w.alloc (.cells cs e)) := by
  unfold bsliceA Ab.ty at h
  split at h
  case h_2 => exact h.elim
  rename_i e hu
  obtain ⟨hnt, h1⟩ := bif_true h not_false
  clear h
  cases hz : zerosOf T e with
  | none => simp [hz] at h1
  | some z =>
    cases hp : partsA.go (fun i => some (i * (T e).size, (T e).size)) (evp st ps) with
    | none => simp [hz, hp] at h1
    | some l =>
      simp only [hz, hp] at h1
      cases hf : fillA (List.replicate len z).flatten l with
      | none => simp [hf] at h1
      | some cs =>
        simp only [hf] at h1
        cases hd : dsOf cs with
        | none => simp [hd] at h1
        | some ds =>
          simp only [hd] at h1
          obtain ⟨hb1, h2⟩ := bif_true h1 not_false
          obtain ⟨hb2, hk⟩ := bif_true h2 not_false
          clear h1 h2
          simp only [Bool.and_eq_true, beq_iff_eq] at hb2
          have hb1 := Nat.le_of_ble_eq_true hb1
          have hs0 : 0 < (T e).size := Nat.le_of_ble_eq_true hb2.1
          obtain ⟨zv, hzr, hzrel, -⟩ := zeros_rel (P := P) (w := w) (ρ := ρ) (M := Mut ρ st.h) hT (by omega) hz
          have hzl : zv.cells.size = (T e).size := by
            have h1 : z.length = zv.cells.toList.length := RelVs.length _ _ hzrel
            have h2 : zv.cells.toList.length = zv.cells.size := Array.length_toList
            omega
          obtain ⟨e1, e2⟩ := evp_rel hs ps
          have hmade := made_list zv.cells (by omega) len
          rw [hzl] at hmade
          obtain ⟨cur', h2, h3⟩ := fill_run _ _ _ _ _ (madeCells zv.cells (len * (T e).size)) e1 e2 (noTop_spec _ hnt) hp (by rw [hmade]; exact flat_rel hzrel len) hf
          rw [dsOf_map _ _ hd] at h3
          have h4 := rels_ds ds _ h3
          have hlen : ds.length = len * (T e).size := by
            have q1 := RelDs.length _ _ h4
            have q2 := RelVs.length _ _ (flat_rel hzrel len)
            rw [← hmade] at q2
            have q3 : (madeCells zv.cells (len * (T e).size)).toList.length = len * (T e).size := by rw [Array.length_toList, size_madeCells]
            have q4 : ∀ (l : List (Nat × List AV)) (z cs : List AV), fillA z l = some cs → cs.length = z.length := by
              intro l
              induction l with
              | nil => intro z cs h; simp [fillA] at h; rw [h]
              | cons p l ih =>
                obtain ⟨off, vs⟩ := p
                intro z cs h
                simp only [fillA] at h
                cases hle : Nat.ble (off + vs.length) z.length with
                | false => simp [hle] at h
                | true =>
                  simp [hle] at h
                  have hle := Nat.le_of_ble_eq_true hle
                  rw [ih _ _ h, setMany_eq vs z off hle]
                  simp only [List.length_append, List.length_take, List.length_drop]
                  omega
            have q5 := q4 _ _ _ hf
            rw [dsOf_map _ _ hd, List.length_map] at q5
            omega
          obtain ⟨h5, h6, h7⟩ := chunks_rel (w := w) (M := Mut ρ st.h) len ds cur'.toList hlen h4
          have hcs : cur'.size = len * (T e).size := by
            have q1 := RelDs.length _ _ h4
            have q2 : cur'.toList.length = cur'.size := Array.length_toList
            omega
          refine ⟨e, (T e).size, _, cur', hk, hs0, h6, ?_, h7, h5, hcs, ?_⟩
          · have : len ≤ len * (T e).size := Nat.le_mul_of_pos_right len hs0
            unfold maxLen; omega
          · by_cases hl0 : len = 0
            · subst hl0
              have e3 : madeCells zv.cells (0 * (T e).size) = #[] := by simp [madeCells]
              rw [e3] at h2
              simp [Instr.buildSlice, run_underlying (hT.slice hu), hT.size (show (T e).size ≠ 0 by omega), h2, newRow, show Array.range 0 = #[] from rfl]
            · have hne : len * (T e).size ≠ 0 := Nat.mul_ne_zero hl0 (by omega)
              have hle : ¬ 16777216 < len * (T e).size := by omega
              unfold madeCells at h2
              simp [Instr.buildSlice, run_underlying (hT.slice hu), hT.size (show (T e).size ≠ 0 by omega), hne, hle, hzr, h2, newRow]
theorem own_new {e c len cap : Nat} {cs : Array Value} {xs : List Value} (hm : cap ≤ maxLen) (hlc : len ≤ cap) (hcs : cs.size = cap * c) (hxs : cs.toList.take (len * c) = xs) (hxl : xs.length = len * c) :
    (w.alloc (.cells cs e)).ownsRow 0 e c (.slice (some ⟨w.heap.size, 0, none⟩) len cap) len xs :=
  ⟨hxl, .inr ⟨w.heap.size, cap, cs, rfl, Nat.zero_le _, Tr.blk_new w _, hlc, hm, hcs, hxs⟩⟩
theorem alloc_size (w : World) (o : Obj) : w.heap.size ≤ (w.alloc o).heap.size := by simp
theorem bslice_next (hT : TysOK P T) {K : St → AV → Prop} {st : St} {a : Act} {t len : Nat} {ps : List (Nat × Operand)} {own : Bool} (hs : RepS ρ st a w)
    (h : bsliceA T t len (evp st ps) fun l c => match own with | true => K { st with n := st.n + 1, h := st.h ++ [(st.n, .row c l)] } (.sl st.n) | false => K st (.d (.imm l))) :
    Nexts P ρ st w K (Instr.buildSlice t len (ps.map fun p => (p.1, a.eval p.2)).toArray) := by
  obtain ⟨e, c, l, cs, hk, hc, hl, hm, hlen, hr, hcs, hrun⟩ := bslice_run hT hs h
  subst hl
  cases own with
  | true =>
    dsimp only at hk
    refine nexts_new (av := .sl st.n) (pv := .slice (some ⟨w.heap.size, 0, none⟩) l.length l.length) (o := .row c l) hs (grows_alloc w _) rfl rfl rfl (alloc_size _ _) hrun (fun b hb => by simp [blkIn, blkOf] at hb; omega) (fun hk' => ?_) ⟨upd_same _ _ _, _, _, _, rfl⟩ hk
    refine ⟨_, cs.toList, e, upd_same _ _ _, hc, own_new hm (Nat.le_refl _) hcs ?_ ?_, hlen, RelRows.mono hk' _ _ hr⟩
    · rw [List.take_of_length_le]; rw [Array.length_toList, hcs]; exact Nat.le_refl _
    · rw [Array.length_toList, hcs]
  | false =>
    dsimp only at hk
    refine nexts_grow (av := .d (.imm l)) hs (grows_alloc w _) rfl rfl rfl (alloc_size _ _) hrun ?_ hk
    refine ⟨_, _, rfl, Nat.le_refl _, .inr ⟨w.heap.size, 0, cs, e, _, c, rfl, Tr.blk_new w _, fun m => Nat.lt_irrefl _ (Mut.lt hs.rep m), hlen, ?_⟩⟩
    rw [List.drop_zero]
    exact RelRows.mono (Grows.keeps (grows_alloc w _)) _ _ hr
theorem make_next (hT : TysOK P T) {K : St → AV → Prop} {st : St} {a : Act} {t e : Nat} {z : List D} {kl kc : IntKind} {l c : Int} (hs : RepS ρ st a w) (hu : (T t).u = .slice e) (hz : (T e).zero = some z)
    (hb : (bif Nat.blt 0 (T e).size && (z.length == (T e).size) then real.mkok l c (T e).bytes = true else False)) (hK : K { st with n := st.n + 1, h := st.h ++ [(st.n, .row (T e).size (real.rep l z))] } (.sl st.n)) :
    Nexts P ρ st w K (Instr.makeSlice t (.int kl l) (.int kc c)) := by
  obtain ⟨hb1, hm⟩ := bif_true hb not_false
  simp only [Bool.and_eq_true, beq_iff_eq] at hb1
  have hs0 : 0 < (T e).size := Nat.le_of_ble_eq_true hb1.1
  have hm : 0 ≤ l ∧ l ≤ c ∧ c ≤ (maxLen : Nat) ∧ ((T e).bytes : Int) * c ≤ 140737488355328 := by simpa [real] using hm
  obtain ⟨i, zv, hi, hiz, hzd, his, hib⟩ := hT.zero (by omega) hz
  have hzrel := zeroD_rel (w := w) (M := Mut ρ st.h) hzd
  have hzs : zv.cells.size = (T e).size := by
    have h1 := RelDs.length _ _ hzrel
    have h2 : zv.cells.toList.length = zv.cells.size := Array.length_toList
    omega
  obtain ⟨m0, m1, m2, m3⟩ := hm
  have hmx : (maxLen : Nat) = 9223372036854775807 := rfl
  have hrun := run_make (P := P) w t e i zv (hT.slice hu) hi hiz kl kc l c m0 m1 (by rw [hib]; omega) (by omega)
  rw [his] at hrun
  have hmade := made_list zv.cells (by omega) c.toNat
  rw [hzs] at hmade
  refine nexts_new (av := .sl st.n) (pv := .slice (some ⟨w.heap.size, 0, none⟩) l.toNat c.toNat) (o := .row (T e).size (real.rep l z)) hs (grows_alloc w _) rfl rfl rfl (alloc_size _ _) hrun (fun b hb => by simp [blkIn, blkOf] at hb; omega) (fun hk' => ?_) ⟨upd_same _ _ _, _, _, _, rfl⟩ hK
  have hrl : (real.rep l z).length = l.toNat := by simp [real]
  have hmul : l.toNat * (T e).size ≤ c.toNat * (T e).size := Nat.mul_le_mul_right _ (by omega)
  refine ⟨_, (madeCells zv.cells (c.toNat * (T e).size)).toList.take (l.toNat * (T e).size), e, upd_same _ _ _, hs0, ?_, ?_, ?_⟩
  · rw [hrl]
    exact own_new (by omega) (by omega) (size_madeCells _ _) rfl (by rw [List.length_take, Array.length_toList, size_madeCells]; omega)
  · intro r hr
    have : r = z := (List.mem_replicate.1 hr).2
    rw [this]; exact hb1.2
  · refine RelRows.mk (c := (T e).size) _ _ (fun r hr => by rw [(List.mem_replicate.1 hr).2]; exact hb1.2) (fun k r hk => ?_)
    have hkl : k < l.toNat := by
      have := (List.getElem?_eq_some_iff.1 hk).1
      rw [hrl] at this; exact this
    have hrz : r = z := (List.mem_replicate.1 (List.mem_of_getElem? hk)).2
    subst hrz
    have hkm : k * (T e).size + (T e).size ≤ l.toNat * (T e).size := by
      have : (k + 1) * (T e).size ≤ l.toNat * (T e).size := Nat.mul_le_mul_right _ hkl
      rw [Nat.add_mul, Nat.one_mul] at this; exact this
    have e1 : (((madeCells zv.cells (c.toNat * (T e).size)).toList.take (l.toNat * (T e).size)).drop (k * (T e).size)).take (T e).size = zv.cells.toList := by
      rw [hmade]
      have q : ∀ (n k : Nat), k < n → ((List.replicate n zv.cells.toList).flatten.drop (k * (T e).size)).take (T e).size = zv.cells.toList := by
        intro n
        induction n with
        | zero => intro k hk; omega
        | succ n ih =>
          intro k hk
          rw [List.replicate_succ, List.flatten_cons]
          have hl : zv.cells.toList.length = (T e).size := by rw [Array.length_toList, hzs]
          cases k with
          | zero => rw [Nat.zero_mul, List.drop_zero, ← hl, List.take_left]
          | succ k =>
            rw [Nat.add_mul, Nat.one_mul, Nat.add_comm, ← List.drop_drop]
            rw [show (zv.cells.toList ++ (List.replicate n zv.cells.toList).flatten).drop (T e).size = (List.replicate n zv.cells.toList).flatten by rw [← hl, List.drop_left]]
            exact ih k (by omega)
      have h9 := q c.toNat k (by omega)
      apply List.ext_getElem?
      intro j
      rw [window_get _ _ _ _ _ hkm]
      have h8 := congrArg (fun l : List Value => l[j]?) h9
      simp only [List.getElem?_take, List.getElem?_drop] at h8
      exact h8
    rw [e1]
    exact RelDs.mono hk' _ _ hzrel
theorem alloc_next (hT : TysOK P T) {K : St → AV → Prop} {st : St} {a : Act} {e : Nat} {z : List AV} (hs : RepS ρ st a w) (hs0 : (T e).size ≠ 0) (hz : zerosOf T e = some z) (hK : K { st with n := st.n + 1, h := st.h ++ [(st.n, .cells z)] } (.ptr st.n 0)) :
    Nexts P ρ st w K (Instr.alloc e true (.tuple #[])) := by
  obtain ⟨zv, hzr, hzrel, -⟩ := zeros_rel (P := P) (w := w) (ρ := ρ) (M := Mut ρ st.h) hT hs0 hz
  have hrun : (Instr.alloc e true (.tuple #[])).run P w = .ok (.pointer (some ⟨w.heap.size, 0, none⟩)) (w.alloc (.cells zv.cells e)) := by
    simp [Instr.alloc, hzr, newVar, newRow]
  refine nexts_new (av := .ptr st.n 0) (pv := .pointer (some ⟨w.heap.size, 0, none⟩)) (o := .cells z) hs (grows_alloc w _) rfl rfl rfl (alloc_size _ _) hrun (fun b hb => by simp [blkIn, blkOf] at hb; omega) (fun hk' => ?_) ⟨_, upd_same _ _ _, rfl⟩ hK
  exact ⟨_, _, e, upd_same _ _ _, Tr.blk_new w _, RelVs.mono (upd_sub hs.rep.fresh _) hk' _ _ hzrel⟩
theorem box_next {K : St → AV → Prop} {st : St} {a : Act} {e : Nat} {x : AV} {v : Value} (hs : RepS ρ st a w) (hx : RelV ρ w (Mut ρ st.h) x v) (ht : x ≠ .top) (hK : K { st with n := st.n + 1, h := st.h ++ [(st.n, .cells (cellsOf x))] } (.ptr st.n 0)) :
    Nexts P ρ st w K (Instr.box e v) := by
  have hrun : (Instr.box e v).run P w = .ok (.pointer (some ⟨w.heap.size, 0, none⟩)) (w.alloc (.cells v.cells e)) := by
    simp [Instr.box, newVar, newRow]
  refine nexts_new (av := .ptr st.n 0) (pv := .pointer (some ⟨w.heap.size, 0, none⟩)) (o := .cells (cellsOf x)) hs (grows_alloc w _) rfl rfl rfl (alloc_size _ _) hrun (fun b hb => by simp [blkIn, blkOf] at hb; omega) (fun hk' => ?_) ⟨_, upd_same _ _ _, rfl⟩ hK
  exact ⟨_, _, e, upd_same _ _ _, Tr.blk_new w _, RelVs.mono (upd_sub hs.rep.fresh _) hk' _ _ (cells_rel hx ht)⟩
theorem eqIn_bool {t : Nat} {a b : Bool} (d : Nat) (hu : P.underlying t = some .bool) : (Op.equalIn (d + 1) t (.bool a) (.bool b)).run P w = .ok (a == b) w := by
  unfold Op.equalIn
  simp [run_underlying hu]
theorem eqIn_ptr0 {t e : Nat} {b : Option Addr} (d : Nat) (hu : P.underlying t = some (.pointer e)) : (Op.equalIn (d + 1) t (.pointer none) (.pointer b)).run P w = .ok b.isNone w := by
  unfold Op.equalIn
  simp [run_underlying hu]
theorem eqIn_ptr1 {t e : Nat} {a : Addr} (d : Nat) (hu : P.underlying t = some (.pointer e)) : (Op.equalIn (d + 1) t (.pointer (some a)) (.pointer none)).run P w = .ok false w := by
  unfold Op.equalIn
  simp [run_underlying hu]
theorem eqIn_sl0 {t e : Nat} (d : Nat) (hu : P.underlying t = some (.slice e)) : (Op.equalIn (d + 1) t (.slice none 0 0) (.slice none 0 0)).run P w = .ok true w := by
  unfold Op.equalIn
  simp [run_underlying hu]
theorem eqIn_map0 {t k e : Nat} (d : Nat) (hu : P.underlying t = some (.map k e)) : (Op.equalIn (d + 1) t (.map none) (.map none)).run P w = .ok true w := by
  unfold Op.equalIn
  simp [run_underlying hu]
theorem eqIn_map1 {t k e : Nat} {r : Nat} (d : Nat) (hu : P.underlying t = some (.map k e)) : (Op.equalIn (d + 1) t (.map (some r)) (.map none)).run P w = .ok false w := by
  unfold Op.equalIn
  simp [run_underlying hu]
theorem eqIn_if0 {t : Nat} {ms : Array (String × TypeId)} (d : Nat) (hu : P.underlying t = some (.interface ms)) : (Op.equalIn (d + 1) t .nilIface .nilIface).run P w = .ok true w := by
  unfold Op.equalIn
  simp [run_underlying hu]
theorem eqIn_if1 {t a : Nat} {b : Value} {ms : Array (String × TypeId)} (d : Nat) (hu : P.underlying t = some (.interface ms)) : (Op.equalIn (d + 1) t (.iface a b) .nilIface).run P w = .ok false w := by
  unfold Op.equalIn
  simp [run_underlying hu]
theorem eqIn_if2 {t a : Nat} {b : Value} {ms : Array (String × TypeId)} (d : Nat) (hu : P.underlying t = some (.interface ms)) : (Op.equalIn (d + 1) t .nilIface (.iface a b)).run P w = .ok false w := by
  unfold Op.equalIn
  simp [run_underlying hu]
theorem eqIn_if3 {t a c : Nat} {b d : Value} {ms : Array (String × TypeId)} (n : Nat) (hu : P.underlying t = some (.interface ms)) (hne : a ≠ c) : (Op.equalIn (n + 1) t (.iface a b) (.iface c d)).run P w = .ok false w := by
  unfold Op.equalIn
  simp [run_underlying hu, hne]
theorem eqIn_int {t : Nat} {k k' : IntKind} {a b : Int} (d : Nat) (hu : P.underlying t = some (.int k')) : (Op.equalIn (d + 1) t (.int k a) (.int k b)).run P w = .ok (a == b) w := by
  unfold Op.equalIn
  simp [run_underlying hu]
theorem eqIn_if4 {t a : Nat} {k k' : IntKind} {x y : Int} {ms : Array (String × TypeId)} {i : TypeInfo} (hu : P.underlying t = some (.interface ms)) (hi : P.info? a = some i) (hc : i.comparable = true) (hk : P.underlying a = some (.int k')) :
    (Op.equalIn (9999 + 1) t (.iface a (.int k x)) (.iface a (.int k y))).run P w = .ok (x == y) w := by
  unfold Op.equalIn
  simp [run_underlying hu, typeInfo, hi, hc, eqIn_int 9998 hk]
theorem ifc_gives (hT : TysOK P T) {K : AV → Prop} {t : Nat} {x : AV} {v : Value} (hx : RelV ρ w M x v) (h : ifcA T t x K) : GivesA P ρ w M K (Instr.makeInterface t v) := by
  have key : ∀ u, (T t).u = u → u ≠ .other → u ≠ .iface → K (.ifc t x) → GivesA P ρ w M K (Instr.makeInterface t v) := by
    intro u hu h1 h2 hk
    obtain ⟨i, d, -, hd, hu3, -⟩ := hT.of_u hu h1
    refine ⟨_, .iface t v, hk, ⟨v, rfl, hx⟩, fun w' _ => ?_⟩
    cases d with
    | interface ms => rw [hu] at hu3; exact absurd hu3 h2
    | _ => simp [Instr.makeInterface, run_underlying hd]
  unfold ifcA Ab.ty at h
  cases hu : (T t).u with
  | iface => rw [hu] at h; exact h.elim
  | other => rw [hu] at h; exact h.elim
  | _ => rw [hu] at h; exact key _ hu (by simp) (by simp) h
theorem eq_gives (hT : TysOK P T) {K : AV → Prop} {t : Nat} {x y : AV} {vx vy : Value} {neq cst : Bool} {X Y : Operand} (hx : RelV ρ w M x vx) (hy : RelV ρ w M y vy) (hc : cst = (isConst X || isConst Y)) (h : eqA T real neq cst t x y K) :
    GivesA P ρ w M K (do eqGuard (if neq then .neq else .eql) t X Y vx vy; binOp (if neq then .neq else .eql) t vx vy) := by
  have eq10 : ∀ t x y, Op.equal t x y = Op.equalIn (9999 + 1) t x y := fun _ _ _ => rfl
  have b1 : ∀ t a b, binOp .eql t (.bool a) (.bool b) = (do pure (.bool (← Op.equal t (.bool a) (.bool b)))) := fun _ _ _ => rfl
  have b2 : ∀ t a b, binOp .neq t (.bool a) (.bool b) = (do pure (.bool (!(← Op.equal t (.bool a) (.bool b))))) := fun _ _ _ => rfl
  have b3 : ∀ t a b, binOp .eql t (.pointer a) (.pointer b) = (do pure (.bool (← Op.equal t (.pointer a) (.pointer b)))) := fun _ _ _ => rfl
  have b4 : ∀ t a b, binOp .neq t (.pointer a) (.pointer b) = (do pure (.bool (!(← Op.equal t (.pointer a) (.pointer b))))) := fun _ _ _ => rfl
  have b5 : ∀ t a b c a' b' c', binOp .eql t (.slice a b c) (.slice a' b' c') = (do pure (.bool (← Op.equal t (.slice a b c) (.slice a' b' c')))) := fun _ _ _ _ _ _ _ => rfl
  have b6 : ∀ t a b c a' b' c', binOp .neq t (.slice a b c) (.slice a' b' c') = (do pure (.bool (!(← Op.equal t (.slice a b c) (.slice a' b' c'))))) := fun _ _ _ _ _ _ _ => rfl
  have b7 : ∀ t a b, binOp .eql t (.map a) (.map b) = (do pure (.bool (← Op.equal t (.map a) (.map b)))) := fun _ _ _ => rfl
  have b8 : ∀ t a b, binOp .neq t (.map a) (.map b) = (do pure (.bool (!(← Op.equal t (.map a) (.map b))))) := fun _ _ _ => rfl
  have b9 : binOp .eql t .nilIface .nilIface = (do pure (.bool (← Op.equal t .nilIface .nilIface))) := rfl
  have c1 : binOp .neq t .nilIface .nilIface = (do pure (.bool (!(← Op.equal t .nilIface .nilIface)))) := rfl
  have c2 : ∀ a b, binOp .eql t (.iface a b) .nilIface = (do pure (.bool (← Op.equal t (.iface a b) .nilIface))) := fun _ _ => rfl
  have c3 : ∀ a b, binOp .neq t (.iface a b) .nilIface = (do pure (.bool (!(← Op.equal t (.iface a b) .nilIface)))) := fun _ _ => rfl
  have c4 : ∀ a b, binOp .eql t .nilIface (.iface a b) = (do pure (.bool (← Op.equal t .nilIface (.iface a b)))) := fun _ _ => rfl
  have c5 : ∀ a b, binOp .neq t .nilIface (.iface a b) = (do pure (.bool (!(← Op.equal t .nilIface (.iface a b))))) := fun _ _ => rfl
  have c6 : ∀ a b c d, binOp .eql t (.iface a b) (.iface c d) = (do pure (.bool (← Op.equal t (.iface a b) (.iface c d)))) := fun _ _ _ _ => rfl
  have c7 : ∀ a b c d, binOp .neq t (.iface a b) (.iface c d) = (do pure (.bool (!(← Op.equal t (.iface a b) (.iface c d))))) := fun _ _ _ _ => rfl
  unfold eqA Ab.ty at h
  split at h
  · rename_i hu
    split at h
    · rename_i a b
      rw [relBool hx, relBool hy]
      refine ⟨_, _, h, rfl, fun u _ => ?_⟩
      cases neq <;> simp [eqGuard, b1, b2, b3, b4, b5, b6, b7, b8, eq10, eqIn_bool _ (hT.bool hu), real]
    · exact h.elim
  · rename_i e hu
    have hu' := hT.ptr hu
    have nil : ∀ {v : Value}, RelV ρ w M (.d .nilp) v → v = .pointer none := fun h => h
    split at h
    · rw [nil hx, nil hy]
      refine ⟨_, _, h, rfl, fun u _ => ?_⟩
      cases neq <;> simp [eqGuard, b1, b2, b3, b4, b5, b6, b7, b8, eq10, eqIn_ptr0 _ hu', eqIn_ptr1 _ hu']
    · obtain ⟨b, hb, rfl⟩ := hx
      rw [nil hy]
      refine ⟨_, _, h, rfl, fun u _ => ?_⟩
      cases neq <;> simp [eqGuard, b1, b2, b3, b4, b5, b6, b7, b8, eq10, eqIn_ptr0 _ hu', eqIn_ptr1 _ hu']
    · obtain ⟨g, n, cap, hb, h0, rfl⟩ := hx
      rw [nil hy]
      refine ⟨_, _, h, rfl, fun u _ => ?_⟩
      cases neq <;> simp [eqGuard, b1, b2, b3, b4, b5, b6, b7, b8, eq10, eqIn_ptr0 _ hu', eqIn_ptr1 _ hu']
    · obtain ⟨b, off, cs, e, fz, c, rfl, -⟩ := hx
      rw [nil hy]
      refine ⟨_, _, h, rfl, fun u _ => ?_⟩
      cases neq <;> simp [eqGuard, b1, b2, b3, b4, b5, b6, b7, b8, eq10, eqIn_ptr0 _ hu', eqIn_ptr1 _ hu']
    · obtain ⟨b, hb, rfl⟩ := hy
      rw [nil hx]
      refine ⟨_, _, h, rfl, fun u _ => ?_⟩
      cases neq <;> simp [eqGuard, b1, b2, b3, b4, b5, b6, b7, b8, eq10, eqIn_ptr0 _ hu', eqIn_ptr1 _ hu']
    · exact h.elim
  · rename_i e hu
    split at h
    · obtain rfl : vx = .slice none 0 0 := hx
      obtain rfl : vy = .slice none 0 0 := hy
      refine ⟨_, _, h, rfl, fun u _ => ?_⟩
      cases neq <;> simp [eqGuard, b1, b2, b3, b4, b5, b6, b7, b8, eq10, eqIn_sl0 _ (hT.slice hu)]
    · rename_i l
      obtain ⟨a, cap, rfl, hcap, hl⟩ := hx
      obtain rfl : vy = .slice none 0 0 := hy
      have h1 := h.h a.isNone (fun ha => by
        rcases hl with hl | ⟨b, off, cs, e', fz, c, rfl, -⟩
        · exact hl
        · cases ha)
      refine ⟨_, _, h1, rfl, fun u _ => ?_⟩
      cases neq <;> simp [eqGuard, b1, b2, b3, b4, b5, b6, b7, b8, eq10, Lib.run_equalIn_slice_nil u 9999 t e a l.length cap 0 0 (hT.slice hu)] <;> cases a <;> rfl
    · exact h.elim
  · rename_i k e hu
    have hu' := hT.map hu
    split at h
    · obtain rfl : vx = .map none := hx
      obtain rfl : vy = .map none := hy
      refine ⟨_, _, h, rfl, fun u _ => ?_⟩
      cases neq <;> simp [eqGuard, b1, b2, b3, b4, b5, b6, b7, b8, eq10, eqIn_map0 _ hu', eqIn_map1 _ hu']
    · obtain ⟨hb, r, rfl⟩ := hx
      obtain rfl : vy = .map none := hy
      refine ⟨_, _, h, rfl, fun u _ => ?_⟩
      cases neq <;> simp [eqGuard, b1, b2, b3, b4, b5, b6, b7, b8, eq10, eqIn_map0 _ hu', eqIn_map1 _ hu']
    · exact h.elim
  · rename_i fs hu
    split at h
    · rename_i l l'
      obtain ⟨hq, h1⟩ := bif_true h not_false
      simp only [Bool.and_eq_true] at hq
      obtain ⟨⟨q1, q2⟩, q3⟩ := hq
      obtain ⟨xs, rfl, hx⟩ := hx
      obtain ⟨ys, rfl, hy⟩ := hy
      refine ⟨_, _, h1, rfl, fun u _ => ?_⟩
      have := hT.seq t q1 neq l l' X Y xs ys w u M q2 q3 hx hy
      rw [this]
      cases neq <;> rfl
    · exact h.elim
  · rename_i hu
    obtain ⟨ms, hu'⟩ := hT.iface hu
    split at h
    · obtain ⟨hc1, h1⟩ := bif_true h not_false
      obtain rfl : vx = .nilIface := hx
      obtain rfl : vy = .nilIface := hy
      refine ⟨_, _, h1, rfl, fun u _ => ?_⟩
      rw [hc1] at hc
      have e1 : ∀ op, (eqGuard op t X Y .nilIface .nilIface).run P u = .ok () u := by
        intro op
        have hor : isConst X = true ∨ isConst Y = true := by
          cases hX : isConst X with
          | true => exact .inl rfl
          | false => rw [hX, Bool.false_or] at hc; exact .inr hc.symm
        unfold eqGuard
        rcases hor with hX | hX
        · cases X with
          | const v => cases op <;> simp
          | _ => cases hX
        · cases Y with
          | const v => cases op <;> simp
          | _ => cases hX
      cases neq <;> simp [e1, b9, c1, eq10, eqIn_if0 _ hu']
    · obtain ⟨y, rfl, -⟩ := hx
      obtain rfl : vy = .nilIface := hy
      refine ⟨_, _, h, rfl, fun u _ => ?_⟩
      cases neq <;> simp [eqGuard, c2, c3, eq10, eqIn_if1 _ hu']
    · obtain ⟨y, rfl, -⟩ := hy
      obtain rfl : vx = .nilIface := hx
      refine ⟨_, _, h, rfl, fun u _ => ?_⟩
      cases neq <;> simp [eqGuard, c4, c5, eq10, eqIn_if2 _ hu']
    · rename_i t1 k a t2 k' b
      obtain ⟨y1, rfl, hy1⟩ := hx
      obtain ⟨y2, rfl, hy2⟩ := hy
      obtain rfl : y1 = .int k a := hy1
      obtain rfl : y2 = .int k' b := hy2
      cases ht : t1 == t2 with
      | false =>
        have hne : t1 ≠ t2 := by simpa using ht
        rw [ht] at h
        refine ⟨_, _, h, rfl, fun u _ => ?_⟩
        cases neq <;> simp [eqGuard, c6, c7, eq10, eqIn_if3 _ hu' hne]
      | true =>
        obtain rfl := eq_of_beq ht
        rw [ht] at h
        simp only [cond_true] at h
        split at h
        · rename_i kk hk
          obtain ⟨i, d, hi, hd, hu3, -, -, -, hcm⟩ := hT.of_u hk (by simp)
          obtain ⟨hkk, h1⟩ := bif_true h not_false
          have hkk : k = k' := by simpa using hkk
          subst hkk
          refine ⟨_, _, h1, rfl, fun u _ => ?_⟩
          cases neq <;> simp [eqGuard, c6, c7, eq10, eqIn_if4 hu' hi (hcm ⟨kk, hk⟩) (hT.int hk), real, rCmp]
        · exact h.elim
    · exact h.elim
  · exact h.elim
end
end Go.Proofs.Yteakfibolfapiaa.Ab
