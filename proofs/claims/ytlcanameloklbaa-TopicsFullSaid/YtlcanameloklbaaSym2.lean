/-
  The machine's word for the operations that touch no named object is true of the model: what is left, and all of them together.
-/
import Derived.Test.YtlcanameloklbaaSym1
import Derived.Laws.Strings3
import Derived.Great.BuildSlice
import Derived.MapKept
import Derived.Laws.AppendOwn
set_option linter.unusedVariables false
set_option linter.unusedSimpArgs false
namespace Go.Sym

section
variable {P : Program} {F : Fix} {V : View} {h : Heap} {w : World} {T : AV → Prop}

theorem extract_str (s : List UInt8) (a b : Nat) : (ByteArray.mk s.toArray).extract a b = ByteArray.mk ((s.take b).drop a).toArray := by
  rw [ByteArray.extract_mk]
  congr 2
  rw [List.drop_take]

theorem slice_str_sound {t : TypeId} {s : List UInt8} {v : Value} {lo hi mx : Option AV} {lov hiv mxv : Option Value} (i : Inv F V h w) (ra : rep F V (.str s) v)
    (rlo : ∀ a, lo = some a → ∃ x, lov = some x ∧ rep F V a x) (rlo0 : lo = none → lov = none) (rhi : ∀ a, hi = some a → ∃ x, hiv = some x ∧ rep F V a x) (rhi0 : hi = none → hiv = none)
    (rmx0 : mx = none → mxv = none)
    (hu : P.underlying t = some .string) (hs : (sliceV (.str s) lo hi mx).sat T) : Gives P F V h w T (Instr.sliceAt t v lov hiv mxv) := by
  simp only [rep] at ra
  subst ra
  have hsz : (ByteArray.mk s.toArray).size = s.length := by simp [ByteArray.size]
  unfold sliceV at hs
  simp only at hs
  cases mx with
  | some _ => exact hs.elim
  | none =>
  obtain rfl := rmx0 rfl
  simp only at hs
  cases lo with
  | none =>
    obtain rfl := rlo0 rfl
    cases hi with
    | none =>
      obtain rfl := rhi0 rfl
      refine .str i hs ?_
      rw [run_sliceAt_string w t _ _ _ _ hu]
      simp [Instr.slice, run_underlying hu, Instr.sliceBounds]
    | some hx =>
      obtain ⟨hxv, rfl, rh⟩ := rhi hx rfl
      cases hx <;> try exact hs.elim
      rename_i kh hn
      simp only [rep] at rh
      subst rh
      obtain ⟨⟨h0, h1⟩, hT⟩ := hs
      refine .str i hT ?_
      rw [run_sliceAt_string w t _ _ _ _ hu, run_slice_string_to_if w t _ kh hn hu, if_pos ⟨h0, by omega⟩, extract_str s 0 hn.toNat, List.drop_zero]
  | some lx =>
    obtain ⟨lxv, rfl, rl⟩ := rlo lx rfl
    cases lx <;> try (cases hi <;> first | exact hs.elim | (rename_i q; cases q <;> exact hs.elim))
    rename_i kl l'
    simp only [rep] at rl
    subst rl
    cases hi with
    | none =>
      obtain rfl := rhi0 rfl
      obtain ⟨⟨h0, h1⟩, hT⟩ := hs
      refine .str i hT ?_
      rw [run_sliceAt_string w t _ _ _ _ hu, run_slice_string_from_if w t _ kl l' hu, if_pos ⟨h0, by omega⟩, hsz, extract_str s l'.toNat s.length, List.take_length]
    | some hx =>
      obtain ⟨hxv, rfl, rh⟩ := rhi hx rfl
      cases hx <;> try exact hs.elim
      rename_i kh hn
      simp only [rep] at rh
      subst rh
      obtain ⟨⟨⟨h0, h1⟩, h2⟩, hT⟩ := hs
      refine .str i hT ?_
      rw [run_sliceAt_string w t _ _ _ _ hu, run_slice_string w t _ kl kh l' hn hu h0 h1 (by omega), extract_str s l'.toNat hn.toNat]

theorem slice_nils_sound {t : TypeId} {k : Nat} {v : Value} {lo hi mx : Option AV} {lov hiv mxv : Option Value} (i : Inv F V h w) (ra : rep F V .nils v)
    (rlo : ∀ a, lo = some a → ∃ x, lov = some x ∧ rep F V a x) (rlo0 : lo = none → lov = none) (rhi : ∀ a, hi = some a → ∃ x, hiv = some x ∧ rep F V a x) (rhi0 : hi = none → hiv = none)
    (rmx : ∀ a, mx = some a → ∃ x, mxv = some x ∧ rep F V a x) (rmx0 : mx = none → mxv = none)
    (hk : elemSize P t = some k) (hs : (sliceV .nils lo hi mx).sat T) : Gives P F V h w T (Instr.sliceAt t v lov hiv mxv) := by
  obtain ⟨e, hu, hke⟩ := elemSize_run hk
  obtain ⟨hsz, -⟩ := kindT_size hke
  have hel := elem_eq hu
  have hu' : P.underlying t = some (.slice (P.elem t)) := by rw [hel]; exact hu
  have hsz' : ∀ w, (sizeOf (P.elem t)).run P w = .ok (width k) w := fun w => by rw [hel]; exact run_sizeT hsz w
  simp only [rep] at ra
  subst ra
  have fin : T .nils → ∀ {r : Result Value}, (Instr.sliceAt t (.slice none 0 0) lov hiv mxv).run P w = r → r = .ok (.slice none 0 0) w → Gives P F V h w T (Instr.sliceAt t (.slice none 0 0) lov hiv mxv) := by
    intro hT r h1 h2
    exact .pure i hT (h1.trans h2) (by simp [rep])
  unfold sliceV at hs
  simp only at hs
  cases lo with
  | none =>
    obtain rfl := rlo0 rfl
    cases hi with
    | none =>
      obtain rfl := rhi0 rfl
      cases mx with
      | some _ => exact hs.elim
      | none =>
      obtain rfl := rmx0 rfl
      refine fin hs rfl ?_
      rw [run_sliceAt_slice w t _ _ _ _ hu', run_slice_all w t none 0 0 hu', hsz', Result.andThen_ok]; rfl
    | some hx =>
      obtain ⟨hxv, rfl, rh⟩ := rhi hx rfl
      cases hx <;> try (cases mx <;> exact hs.elim)
      rename_i kh hn
      simp only [rep] at rh
      subst rh
      cases mx with
      | none =>
        obtain rfl := rmx0 rfl
        obtain ⟨rfl, hT⟩ := hs
        refine fin hT rfl ?_
        rw [run_sliceAt_slice w t _ _ _ _ hu', run_slice_h w t none 0 0 hu' kh 0 (by omega) (by omega), hsz', Result.andThen_ok]; rfl
      | some mx =>
        obtain ⟨mxv', rfl, rm⟩ := rmx mx rfl
        cases mx <;> try exact hs.elim
        rename_i km m'
        simp only [rep] at rm
        subst rm
        obtain ⟨⟨rfl, rfl⟩, hT⟩ := hs
        refine fin hT rfl ?_
        rw [run_sliceAt_slice w t _ _ _ _ hu', run_slice_hm w t none 0 0 hu' kh km 0 0 (by omega) (by omega) (by omega), hsz', Result.andThen_ok]; rfl
  | some lx =>
    obtain ⟨lxv, rfl, rl⟩ := rlo lx rfl
    cases lx <;> try (cases hi <;> cases mx <;> first | exact hs.elim | (rename_i q; cases q <;> exact hs.elim) | (rename_i q r; cases q <;> cases r <;> exact hs.elim))
    rename_i kl l'
    simp only [rep] at rl
    subst rl
    cases hi with
    | none =>
      obtain rfl := rhi0 rfl
      cases mx with
      | some _ => exact hs.elim
      | none =>
      obtain rfl := rmx0 rfl
      obtain ⟨rfl, hT⟩ := hs
      refine fin hT rfl ?_
      rw [run_sliceAt_slice w t _ _ _ _ hu', run_slice_l w t none 0 0 hu' kl 0 (by omega) (by omega), hsz', Result.andThen_ok]; rfl
    | some hx =>
      obtain ⟨hxv, rfl, rh⟩ := rhi hx rfl
      cases hx <;> try (cases mx <;> exact hs.elim)
      rename_i kh hn
      simp only [rep] at rh
      subst rh
      cases mx with
      | some _ => exact hs.elim
      | none =>
      obtain rfl := rmx0 rfl
      obtain ⟨⟨rfl, rfl⟩, hT⟩ := hs
      refine fin hT rfl ?_
      rw [run_sliceAt_slice w t _ _ _ _ hu', run_slice_lh w t none 0 0 hu' kl kh 0 0 (by omega) (by omega) (by omega), hsz', Result.andThen_ok]; rfl

theorem len_sound {t ty : TypeId} {ts : List TypeId} {a : AV} {v : Value} {n : Int} (i : Inv F V h w) (ra : rep F V a v) (hl : lenV P t a = some n) (hT : T (.int .i64 n)) :
    Gives P F V h w T (Builtin.len_ (t :: ts).toArray ty #[v]) := by
  unfold lenV at hl
  have e0 : (t :: ts).toArray[0]? = some t := by simp
  have e1 : (#[v] : Array Value)[0]? = some v := rfl
  cases hu : P.underlying t with
  | none => simp [hu] at hl
  | some u =>
  cases u <;> simp only [hu] at hl <;> try (cases hl; done)
  case string =>
    cases a <;> simp only [Option.some.injEq] at hl <;> try (cases hl; done)
    subst hl
    simp only [rep] at ra
    subst ra
    exact .int i hT (by simp only [Builtin.len_, e0, e1, Sem.run_bind, run_underlying hu, Result.andThen_ok, Sem.run_pure, goInt]; rfl)
  case slice e =>
    cases a <;> simp only [Option.some.injEq] at hl <;> try (cases hl; done)
    case nils =>
      subst hl
      simp only [rep] at ra
      subst ra
      exact .int i hT (by simp [Builtin.len_, run_underlying hu, goInt])
    case sl p k els =>
      subst hl
      simp only [rep] at ra
      rcases ra with ⟨b, o, cap, vs, rfl, hl, -⟩ | ⟨rfl, ⟨qa, rfl⟩, -⟩
      · exact .int i hT (by simp [Builtin.len_, run_underlying hu, goInt, hl.length])
      · exact .int i hT (by simp [Builtin.len_, run_underlying hu, goInt])
    case arr id k n' =>
      subst hl
      simp only [rep] at ra
      obtain ⟨b, _, rfl⟩ := ra
      exact .int i hT (by simp [Builtin.len_, run_underlying hu, goInt])
    case vec id k n' c' =>
      subst hl
      simp only [rep] at ra
      obtain ⟨b, -, -, rfl⟩ := ra
      exact .int i hT (by simp [Builtin.len_, run_underlying hu, goInt])
  case map kt e =>
    cases a <;> simp only [Option.some.injEq] at hl <;> try (cases hl; done)
    subst hl
    simp only [rep] at ra
    subst ra
    exact .int i hT (by simp [Builtin.len_, run_underlying hu, goInt])

theorem min_fold : ∀ {l : List AV} {vs : List Value} {a : AV} {v : Value}, repL F V l vs → rep F V a v → (minV l a = .top ∨ ∃ x, (vs.foldlM Builtin.min2 v).run P w = .ok x w ∧ rep F V (minV l a) x)
  | [], vs, a, v, hl, ha => by
    simp only [repL] at hl
    subst hl
    exact .inr ⟨v, by simp, by simpa [minV] using ha⟩
  | b :: l, vs, a, v, hl, ha => by
    simp only [repL] at hl
    obtain ⟨y, r, rfl, hy, hr⟩ := hl
    cases b <;> try exact .inl rfl
    cases a <;> try exact .inl rfl
    rename_i k p k' q
    simp only [rep] at ha hy
    subst ha; subst hy
    simp only [minV]
    cases hk : kindEq k k' with
    | false => exact .inl rfl
    | true =>
    obtain rfl := kindEq_eq hk
    simp only [cond_true]
    have := min_fold (l := l) (vs := r) (a := .int k (if p < q then p else q)) (v := .int k (if p < q then p else q)) hr (by simp [rep])
    rcases this with h1 | ⟨x, h1, h2⟩
    · exact .inl h1
    · exact .inr ⟨x, by simp [List.foldlM_cons, Builtin.min2, h1], h2⟩

theorem max_fold : ∀ {l : List AV} {vs : List Value} {a : AV} {v : Value}, repL F V l vs → rep F V a v → (maxV l a = .top ∨ ∃ x, (vs.foldlM Builtin.max2 v).run P w = .ok x w ∧ rep F V (maxV l a) x)
  | [], vs, a, v, hl, ha => by
    simp only [repL] at hl
    subst hl
    exact .inr ⟨v, by simp, by simpa [maxV] using ha⟩
  | b :: l, vs, a, v, hl, ha => by
    simp only [repL] at hl
    obtain ⟨y, r, rfl, hy, hr⟩ := hl
    cases b <;> try exact .inl rfl
    cases a <;> try exact .inl rfl
    rename_i k p k' q
    simp only [rep] at ha hy
    subst ha; subst hy
    simp only [maxV]
    cases hk : kindEq k k' with
    | false => exact .inl rfl
    | true =>
    obtain rfl := kindEq_eq hk
    simp only [cond_true]
    have := max_fold (l := l) (vs := r) (a := .int k (if p > q then p else q)) (v := .int k (if p > q then p else q)) hr (by simp [rep])
    rcases this with h1 | ⟨x, h1, h2⟩
    · exact .inl h1
    · exact .inr ⟨x, by simp [List.foldlM_cons, Builtin.max2, h1], h2⟩

theorem unOp_sound {op : UnOp} {a : AV} {v : Value} (i : Inv F V h w) (ra : rep F V a v)
    (hs : (unF op a).sat T) : Gives P F V h w T (Op.unary op v) := by
  unfold unF at hs
  cases op <;> cases a <;> try exact hs.elim
  all_goals simp only [rep] at ra; subst ra
  · have := intOp_sound (P := P) (t := 0) hs i
    simpa [Op.unary, binOp] using this
  · have := intOp_sound (P := P) (t := 0) hs i
    simpa [Op.unary, binOp] using this
  · exact .bool i hs (by simp [Op.unary])
  · exact .bl i hs (by simp [Op.unary])

theorem fold_set (off : Nat) : ∀ (cs : List Value) (m : Nat) (a : Array Value),
    ((cs.zipIdx m).foldl (fun (a : Array Value) (p : Value × Nat) => a.setIfInBounds (off + p.2) p.1) a).size = a.size ∧
    ∀ i, ((cs.zipIdx m).foldl (fun (a : Array Value) (p : Value × Nat) => a.setIfInBounds (off + p.2) p.1) a)[i]? = if off + m ≤ i ∧ i < off + m + cs.length ∧ i < a.size then cs[i - (off + m)]? else a[i]?
  | [], m, a => by simp; intro i h1 h2; omega
  | c :: cs, m, a => by
    simp only [List.zipIdx_cons, List.foldl_cons]
    obtain ⟨h1, h2⟩ := fold_set off cs (m + 1) (a.setIfInBounds (off + m) c)
    refine ⟨by rw [h1]; simp, fun i => ?_⟩
    rw [h2]
    simp only [Array.size_setIfInBounds, List.length_cons]
    by_cases e : off + m = i
    · subst e
      rw [if_neg (by omega)]
      by_cases hs : off + m < a.size
      · rw [if_pos ⟨Nat.le_refl _, by omega, hs⟩]
        simp [hs]
      · rw [if_neg (by omega)]
        simp [Nat.le_of_not_lt hs]
    · by_cases hc : off + (m + 1) ≤ i ∧ i < off + (m + 1) + cs.length ∧ i < a.size
      · rw [if_pos hc, if_pos (by omega)]
        rw [show i - (off + m) = (i - (off + (m + 1))) + 1 by omega]
        simp
      · rw [if_neg hc, if_neg (by omega)]
        simp [e]

theorem fold_cells (off : Nat) (cs cells : Array Value) (hle : off + cs.size ≤ cells.size) :
    (cs.zipIdx.foldl (fun a (c, j) => a.setIfInBounds (off + j) c) cells).toList = cells.toList.take off ++ (cs.toList ++ cells.toList.drop (off + cs.size)) := by
  obtain ⟨h1, h2⟩ := fold_set off cs.toList 0 cells
  rw [← Array.foldl_toList]
  simp only [Array.toList_zipIdx]
  apply List.ext_getElem?
  intro i
  have := h2 i
  simp only [Nat.add_zero, Array.length_toList] at this
  rw [Array.getElem?_toList]
  refine this.trans ?_
  by_cases ha : i < off
  · rw [if_neg (by omega), List.getElem?_append_left (by simp; omega), List.getElem?_take, if_pos ha, Array.getElem?_toList]
  · rw [List.getElem?_append_right (by simp; omega)]
    have hl : (cells.toList.take off).length = off := by simp; omega
    rw [hl]
    by_cases hb : i < off + cs.size
    · rw [if_pos (by omega), List.getElem?_append_left (by simp; omega)]
    · rw [if_neg (by omega), List.getElem?_append_right (by simp; omega)]
      simp only [Array.length_toList, List.getElem?_drop, Array.getElem?_toList]
      congr 1; omega

theorem fill_sound {place : Nat → Option (Nat × Nat)} : ∀ {pa : List (Nat × AV)} {pv : List (Nat × Value)} {cells r : List AV} {vs : Array Value},
    partsV place cells pa = some r → pa.map (·.1) = pv.map (·.1) → repL F V (pa.map (·.2)) (pv.map (·.2)) → repL F V cells vs.toList → (∀ x ∈ vs.toList, x.oneCell' = true) →
    ∃ vs', Instr.fill place vs pv = some vs' ∧ repL F V r vs'.toList ∧ (∀ x ∈ vs'.toList, x.oneCell' = true) ∧ vs'.size = vs.size
  | [], pv, cells, r, vs, he, h1, h2, hc, ho => by
    have : pv = [] := by simpa using h1.symm
    subst this
    simp only [partsV, Option.some.injEq] at he
    subst he
    exact ⟨vs, rfl, hc, ho, rfl⟩
  | (i, a) :: pa, [], cells, r, vs, he, h1, h2, hc, ho => by simp at h1
  | (i, a) :: pa, (j, v) :: pv, cells, r, vs, he, h1, h2, hc, ho => by
    simp only [List.map_cons, List.cons.injEq] at h1
    obtain ⟨hij, h1⟩ := h1
    subst hij
    simp only [List.map_cons, repL] at h2
    obtain ⟨v', r', hv, hra, h2⟩ := h2
    simp only [List.cons.injEq] at hv
    obtain ⟨rfl, rfl⟩ := hv
    simp only [partsV] at he
    cases hp : place i with
    | none => simp [hp] at he
    | some os =>
    obtain ⟨off, size⟩ := os
    simp only [hp] at he
    cases hcs : cellsOf a with
    | none => simp [hcs] at he
    | some cs =>
    simp only [hcs] at he
    cases hb : Nat.beq cs.length size with
    | false => simp [hb] at he
    | true =>
    obtain rfl := Nat.eq_of_beq_eq_true hb
    cases hle : Nat.ble (off + cs.length) cells.length with
    | false => simp [hle] at he
    | true =>
    simp only [hb, hle, cond_true] at he
    have hle := Nat.le_of_ble_eq_true hle
    have hcl := hc.length
    -- the part's own cells
    have hvc : repL F V cs v.cells.toList ∧ ∀ x ∈ v.cells.toList, x.oneCell' = true := by
      have one : scalar a = true → cs = [a] → repL F V cs v.cells.toList ∧ ∀ x ∈ v.cells.toList, x.oneCell' = true := by
        intro hs he
        subst he
        have hv1 := scalar_one hs hra
        rw [cells_one hv1]
        exact ⟨by simp only [repL]; exact ⟨v, [], rfl, hra, rfl⟩, by simp [hv1]⟩
      cases a <;> simp only [cellsOf, Option.some.injEq] at hcs <;> try (cases hcs; done)
      case agg l =>
        subst hcs
        simp only [rep] at hra
        obtain ⟨us, rfl, hr, hone⟩ := hra
        exact ⟨by simpa [Value.cells] using hr, by simpa [Value.cells] using hone⟩
      all_goals exact one rfl hcs.symm
    have hvl : cs.length = v.cells.size := by simpa using hvc.1.length
    have hfold := fold_cells off v.cells vs (by rw [← hvl]; simpa [hcl] using hle)
    have hsz := (fold_set off v.cells.toList 0 vs).1
    rw [← Array.toList_zipIdx, Array.foldl_toList] at hsz
    have hfill : Instr.fill place vs ((i, v) :: pv) = Instr.fill place (v.cells.zipIdx.foldl (fun cs (c, j) => cs.setIfInBounds (off + j) c) vs) pv := by
      rw [Instr.fill]
      simp only [hp]
      rw [if_neg]
      simp only [Bool.or_eq_true, decide_eq_true_eq, not_or]
      refine ⟨by rw [hvl]; simp, ?_⟩
      have : cells.length = vs.size := by simpa using hcl
      omega
    rw [hfill]
    have hrep : repL F V (cells.take off ++ (cs ++ cells.drop (off + cs.length))) (v.cells.zipIdx.foldl (fun cs (c, j) => cs.setIfInBounds (off + j) c) vs).toList := by
      rw [hfold, ← hvl]
      exact (hc.take off).append (hvc.1.append (hc.drop _))
    have hone : ∀ x ∈ (v.cells.zipIdx.foldl (fun cs (c, j) => cs.setIfInBounds (off + j) c) vs).toList, x.oneCell' = true := by
      rw [hfold]
      intro x hx
      simp only [List.mem_append] at hx
      rcases hx with hx | hx | hx
      · exact ho x (List.mem_of_mem_take hx)
      · exact hvc.2 x hx
      · exact ho x (List.mem_of_mem_drop hx)
    obtain ⟨vs', r1, r2, r3, r4⟩ := fill_sound (pa := pa) (pv := pv) he h1 h2 hrep hone
    exact ⟨vs', r1, r2, r3, by rw [r4]; exact hsz⟩

theorem zeroT_run {e : TypeId} {a : AV} (hz : zeroT P e = a) (hne : a ≠ .top) : ∃ z, (∀ w, (zeroValue e).run P w = .ok z w) ∧ rep F V a z ∧ ∃ i, P.info? e = some i ∧ i.zero = some z := by
  unfold zeroT at hz
  cases hi : P.info? e with
  | none => simp [hi] at hz; exact absurd hz.symm hne
  | some i =>
  simp only [hi] at hz
  cases hzz : i.zero with
  | none => simp [hzz] at hz; exact absurd hz.symm hne
  | some z =>
  simp only [hzz] at hz
  subst hz
  exact ⟨z, fun w => by simp [zeroValue, typeInfo, hi, hzz], ofV_rep z, i, rfl, hzz⟩

theorem run_places : ∀ (fs : List Field), fieldsSized P fs = true → ∀ w : World,
    (fs.mapM (m := Sem) fun f => do pure (f.offset, ← sizeOf f.type)).run P w = .ok (fs.map fun f => (f.offset, (sizeT P f.type).getD 0)) w
  | [], _, w => by simp
  | f :: fs, h, w => by
    simp only [fieldsSized, Bool.and_eq_true] at h
    have ih := run_places fs h.2
    cases hs : sizeT P f.type with
    | none => simp [hs] at h
    | some n => simp only [List.mapM_cons, Sem.run_bind, run_sizeT hs, Result.andThen_ok, Sem.run_pure, ih, List.map_cons, hs, Option.getD_some]

theorem evp_fst (ev : Operand → AV) : ∀ l : List (Nat × Operand), (evp ev l).map (·.1) = l.map (·.1)
  | [] => rfl
  | (i, x) :: r => by simp [evp, evp_fst ev r]

theorem evp_rep {ev : Operand → AV} {ρ : Operand → Value} (re : ∀ x, rep F V (ev x) (ρ x)) : ∀ l : List (Nat × Operand), repL F V ((evp ev l).map (·.2)) (l.map fun x => ρ x.2)
  | [] => by simp [evp, repL]
  | (i, x) :: r => by simp only [evp, List.map_cons, repL]; exact ⟨_, _, rfl, re x, evp_rep re r⟩

theorem evs_rep {ev : Operand → AV} {ρ : Operand → Value} (re : ∀ x, rep F V (ev x) (ρ x)) : ∀ l : List Operand, repL F V (evs ev l) (l.map ρ)
  | [] => by simp [evs, repL]
  | x :: r => by simp only [evs, List.map_cons, repL]; exact ⟨_, _, rfl, re x, evs_rep re r⟩

theorem build_sound {t : TypeId} {parts : Array (Nat × Operand)} {ev : Operand → AV} {ρ : Operand → Value} (i : Inv F V h w) (re : ∀ x, rep F V (ev x) (ρ x))
    (hs : (buildF P t (evp ev parts.toList)).sat T) : Gives P F V h w T (Instr.build t (parts.map fun (i, x) => (i, ρ x))) := by
  unfold buildF at hs
  cases hu : P.underlying t with
  | none => simp [hu, FR.sat] at hs
  | some u =>
  cases u <;> simp only [hu] at hs <;> try exact hs.elim
  rename_i fs
  cases hz : zeroT P t <;> simp only [hz] at hs <;> try exact hs.elim
  rename_i z
  cases hfs : fieldsSized P fs.toList with
  | false => simp [hfs, FR.sat] at hs
  | true =>
  simp only [hfs, cond_true] at hs
  cases hp : partsV (fieldPlaces P fs.toList) z (evp ev parts.toList) with
  | none => simp [hp, FR.sat] at hs
  | some l =>
  simp only [hp, FR.sat] at hs
  obtain ⟨zv, hzr, hzrep, -⟩ := zeroT_run (P := P) (F := F) (V := V) hz (by simp)
  simp only [rep] at hzrep
  obtain ⟨zs, rfl, hzl, hzo⟩ := hzrep
  have hplace : (fun j : Nat => (fs.toList.map fun f => (f.offset, (sizeT P f.type).getD 0)).toArray[j]?) = fieldPlaces P fs.toList := by
    funext j
    simp only [fieldPlaces, List.getElem?_toArray, List.getElem?_map, Array.getElem?_toList]
    have hall : ∀ (l : List Field), fieldsSized P l = true → ∀ f ∈ l, ∃ n, sizeT P f.type = some n := by
      intro l
      induction l with
      | nil => intro _ f hf; cases hf
      | cons g l ih =>
        intro hl f hf
        simp only [fieldsSized, Bool.and_eq_true] at hl
        cases hf with
        | head => cases hg : sizeT P g.type with
          | none => simp [hg] at hl
          | some n => exact ⟨n, rfl⟩
        | tail _ hf => exact ih hl.2 f hf
    cases hj : fs[j]? with
    | none => simp
    | some f =>
      obtain ⟨n, hn⟩ := hall _ hfs f (by simpa using Array.mem_of_getElem? hj)
      simp [hn]
  obtain ⟨vs', r1, r2, r3, -⟩ := fill_sound (F := F) (V := V) (place := fieldPlaces P fs.toList) (pv := parts.toList.map fun x => (x.1, ρ x.2)) (vs := zs.toArray) hp
    (by rw [evp_fst]; simp) (by have := evp_rep re parts.toList; rw [List.map_map]; exact this) (by simpa using hzl) (by simpa using hzo)
  refine .pure (v := .agg vs') i hs ?_ (by simp only [rep]; exact ⟨vs'.toList, by simp, r2, r3⟩)
  have hpl : (fs.mapM (m := Sem) fun f => do pure (f.offset, ← sizeOf f.type)).run P w = .ok (fs.toList.map fun f => (f.offset, (sizeT P f.type).getD 0)).toArray w := by
    rw [Array.mapM_eq_mapM_toList]
    simp only [Sem.run_map, run_places fs.toList hfs, Result.andThen_ok]
  have hpv : (parts.map fun (i, x) => (i, ρ x)).toList = parts.toList.map fun x => (x.1, ρ x.2) := by simp
  simp only [Instr.build, Sem.run_bind, hzr, Result.andThen_ok, run_underlying hu, hpl, hplace, hpv, Value.cells, r1, Sem.run_pure]

theorem elemV_ok {k : Nat} {a : AV} {x : Value} (he : elemV k a = true) (r : rep F V a x) : elemOk k x := by
  cases k with
  | zero => simp only [elemV] at he; simp only [elemOk, if_true]; exact scalar_one he r
  | succ n =>
    cases a <;> simp only [elemV, Bool.false_eq_true] at he
    rename_i l
    simp only [rep] at r
    obtain ⟨vs, rfl, hl, ho⟩ := r
    have := Nat.eq_of_beq_eq_true he
    simp only [elemOk, Nat.succ_ne_zero, if_false]
    exact ⟨vs.toArray, rfl, by simp [← hl.length, this], by simpa using ho⟩

def setVs (vs : List Value) : List (Nat × Value) → List Value
  | [] => vs
  | (i, v) :: r => setVs (vs.set i v) r

theorem setEls_rep : ∀ {pa : List (Nat × AV)} {pv : List (Nat × Value)} {els : List AV} {vs : List Value}, pa.map (·.1) = pv.map (·.1) → repL F V (pa.map (·.2)) (pv.map (·.2)) → repL F V els vs → repL F V (setEls els pa) (setVs vs pv)
  | [], pv, els, vs, h1, _, hl => by
    have : pv = [] := by simpa using h1.symm
    subst this; exact hl
  | (i, a) :: pa, [], els, vs, h1, _, _ => by simp at h1
  | (i, a) :: pa, (j, v) :: pv, els, vs, h1, h2, hl => by
    simp only [List.map_cons, List.cons.injEq] at h1
    obtain ⟨hij, h1⟩ := h1
    subst hij
    simp only [List.map_cons, repL] at h2
    obtain ⟨v', r', hv, hra, h2⟩ := h2
    simp only [List.cons.injEq] at hv
    obtain ⟨rfl, rfl⟩ := hv
    exact setEls_rep (pa := pa) (pv := pv) h1 h2 (hl.set i hra)

theorem flat_set {k : Nat} : ∀ {vs : List Value} {i : Nat} {v : Value}, (∀ x ∈ vs, elemOk k x) → elemOk k v → i < vs.length →
    flat (vs.set i v) = (flat vs).take (i * width k) ++ (v.cells.toList ++ (flat vs).drop (i * width k + width k))
  | [], i, v, _, _, hi => by simp at hi
  | x :: vs, 0, v, hk, hv, hi => by
    have hx := (hk x List.mem_cons_self).cells
    simp [flat, hx]
  | x :: vs, i + 1, v, hk, hv, hi => by
    have hx := (hk x List.mem_cons_self).cells
    have ih := flat_set (k := k) (vs := vs) (i := i) (v := v) (fun y hy => hk y (List.mem_cons_of_mem _ hy)) hv (by simpa using hi)
    simp only [flat, List.set_cons_succ, List.flatMap_cons] at ih ⊢
    rw [ih]
    have hl : x.cells.toList.length = width k := by simpa using hx
    rw [show (i + 1) * width k = width k + i * width k by rw [Nat.add_mul]; omega]
    rw [List.take_append, List.drop_append, hl, List.take_of_length_le (l := x.cells.toList) (by omega), List.drop_of_length_le (l := x.cells.toList) (by omega)]
    rw [show width k + i * width k - width k = i * width k by omega, show width k + i * width k + width k - width k = i * width k + width k by omega]
    simp

theorem fillEls {k : Nat} : ∀ {pv : List (Nat × Value)} {vs : List Value}, (∀ x ∈ vs, elemOk k x) → (∀ p ∈ pv, p.1 < vs.length ∧ elemOk k p.2) →
    Instr.fill (fun i => some (i * width k, width k)) (flat vs).toArray pv = some (flat (setVs vs pv)).toArray ∧ (∀ x ∈ setVs vs pv, elemOk k x) ∧ (setVs vs pv).length = vs.length
  | [], vs, hv, _ => ⟨rfl, hv, rfl⟩
  | (i, v) :: pv, vs, hv, hp => by
    obtain ⟨hi, hek⟩ := hp (i, v) List.mem_cons_self
    simp only at hi hek
    have hlen := flat_length hv
    have hvs := hek.cells
    have hset : ∀ x ∈ vs.set i v, elemOk k x := by
      intro x hx
      rcases List.mem_or_eq_of_mem_set hx with hx | rfl
      · exact hv x hx
      · exact hek
    obtain ⟨h1, h2, h3⟩ := fillEls (k := k) (pv := pv) (vs := vs.set i v) hset (fun p hp' => by simpa using hp p (List.mem_cons_of_mem _ hp'))
    have hle : i * width k + v.cells.size ≤ (flat vs).toArray.size := by
      have := Nat.mul_le_mul_right (width k) (show i + 1 ≤ vs.length from hi)
      rw [Nat.add_mul] at this
      simp only [List.size_toArray, hlen, hvs]
      omega
    refine ⟨?_, h2, h3.trans (by simp)⟩
    rw [Instr.fill]
    simp only
    rw [if_neg]
    · have := fold_cells (i * width k) v.cells (flat vs).toArray hle
      have e : v.cells.zipIdx.foldl (fun cs (c, j) => cs.setIfInBounds (i * width k + j) c) (flat vs).toArray = (flat (vs.set i v)).toArray := by
        apply Array.ext'
        rw [flat_set hv hek hi]
        simpa [hvs] using this
      rw [e]; exact h1
    · simp only [Bool.or_eq_true, decide_eq_true_eq, not_or]
      exact ⟨by simp [hvs], by omega⟩

theorem partsOk_all {k len : Nat} : ∀ {pa : List (Nat × AV)} {pv : List (Nat × Value)}, partsOk k len pa = true → pa.map (·.1) = pv.map (·.1) → repL F V (pa.map (·.2)) (pv.map (·.2)) → ∀ p ∈ pv, p.1 < len ∧ elemOk k p.2
  | [], pv, _, h1, _ => by
    have : pv = [] := by simpa using h1.symm
    subst this; simp
  | (i, a) :: pa, [], _, h1, _ => by simp at h1
  | (i, a) :: pa, (j, v) :: pv, hp, h1, h2 => by
    simp only [List.map_cons, List.cons.injEq] at h1
    obtain ⟨hij, h1⟩ := h1
    subst hij
    simp only [List.map_cons, repL] at h2
    obtain ⟨v', r', hv, hra, h2⟩ := h2
    simp only [List.cons.injEq] at hv
    obtain ⟨rfl, rfl⟩ := hv
    simp only [partsOk, Bool.and_eq_true] at hp
    intro p hm
    cases hm with
    | head => exact ⟨Nat.le_of_ble_eq_true hp.2.1, elemV_ok hp.1 hra⟩
    | tail _ hm => exact partsOk_all (pa := pa) (pv := pv) hp.2.2 h1 h2 p hm

theorem flat_replicate {k : Nat} {z : Value} (hz : elemOk k z) (n : Nat) : (Array.range (n * width k)).map (z.cells[· % z.cells.size]!) = (flat (List.replicate n z)).toArray := by
  have hs := hz.cells
  have hw : 0 < width k := by unfold width; split <;> omega
  have hek : ∀ x ∈ List.replicate n z, elemOk k x := fun x hx => by rw [List.eq_of_mem_replicate hx]; exact hz
  apply Array.ext'
  apply List.ext_getElem?
  intro j
  have hl := flat_length hek
  simp only [List.length_replicate] at hl
  by_cases hj : j < n * width k
  · have hd : j / width k < n := Nat.div_lt_of_lt_mul (by rw [Nat.mul_comm]; exact hj)
    have hm : j % width k < width k := Nat.mod_lt _ hw
    have := flat_get (i := j / width k) (j := j % width k) (x := z) (y := z.cells[j % width k]'(by omega)) hek (by simp [hd]) (by simp [hs, hm])
    rw [Nat.mul_comm (j / width k), Nat.div_add_mod] at this
    simp only [this]
    simp [hj, hs, hm]
  · rw [List.getElem?_eq_none (by simp; omega), List.getElem?_eq_none (by simp [hl]; omega)]

theorem repL_replicate {a : AV} {z : Value} (r : rep F V a z) : ∀ n, repL F V (List.replicate n a) (List.replicate n z)
  | 0 => by simp [repL]
  | n + 1 => by simp only [List.replicate_succ, repL]; exact ⟨z, _, rfl, r, repL_replicate r n⟩

/-- A new slice of known elements. -/
theorem newRow_gives {k : Nat} {els : List AV} {vs : List Value} {s : Sem Value} {e : TypeId} (i : Inv F V h w) (hl : repL F V els vs) (hek : ∀ x ∈ vs, elemOk k x) (hT : T (.sl .full k els))
    (hr : s.run P w = .ok (.slice (some ⟨w.heap.size, 0, none⟩) vs.length vs.length) (w.alloc (.cells (flat vs).toArray e))) : Gives P F V h w T s := by
  refine ⟨_, _, _, _, hT, hr, ?_, i.alloc (flat vs).toArray e (0, 0), Step.alloc i _ _⟩
  simp only [rep]
  refine .inl ⟨w.heap.size, 0, vs.length, vs, rfl, hl.mono (i.le_addF _) (.refl V), hek, ?_, rfl⟩
  intro j y hy
  simp only [addF, if_true, Nat.zero_add, List.getElem?_toArray]
  exact hy

theorem buildSlice_sound {t : TypeId} {len : Nat} {parts : Array (Nat × Operand)} {ev : Operand → AV} {ρ : Operand → Value} (i : Inv F V h w) (re : ∀ x, rep F V (ev x) (ρ x))
    (hs : (buildSliceF P t len (evp ev parts.toList)).sat T) :
    Gives P F V h w T (Instr.buildSlice t len (parts.map fun (i, x) => (i, ρ x))) := by
  unfold buildSliceF at hs
  cases he : elemT P t with
  | none => simp [he, FR.sat] at hs
  | some e =>
  cases hk : kindT P e with
  | none => simp [he, hk, FR.sat] at hs
  | some k =>
  simp only [he, hk] at hs
  cases hc : (Nat.ble (len * width k) 16777216 && (partsOk k len (evp ev parts.toList) && elemV k (zeroT P e))) with
  | false => simp [hc, FR.sat] at hs
  | true =>
  simp only [hc, cond_true, FR.sat] at hs
  simp only [Bool.and_eq_true] at hc
  obtain ⟨hsm, hpo, hez⟩ := hc
  have hsm := Nat.le_of_ble_eq_true hsm
  have hu : P.underlying t = some (.slice e) := by
    unfold elemT at he
    split at he
    · cases he; assumption
    · cases he
  suffices main : ∀ T' : AV → Prop, T' (.sl .full k (setEls (List.replicate len (zeroT P e)) (evp ev parts.toList))) → Gives P F V h w T' (Instr.buildSlice t len (parts.map fun (i, x) => (i, ρ x))) by
    cases hb : Nat.beq len 0 with
    | false =>
      simp only [hb, cond_false, FR.sat] at hs
      exact main T hs
    | true =>
      simp only [hb, cond_true, FR.sat] at hs
      have h0 := Nat.eq_of_beq_eq_true hb
      subst h0
      have hnil : setEls (List.replicate 0 (zeroT P e)) (evp ev parts.toList) = [] := by
        cases hpl : evp ev parts.toList with
        | nil => rfl
        | cons p r =>
          rw [hpl] at hpo
          obtain ⟨i0, v0⟩ := p
          simp [partsOk] at hpo
      obtain ⟨a, v, F', w', r1, r2, r3, r4, r5⟩ := main (fun a => a = .sl .full k (setEls (List.replicate 0 (zeroT P e)) (evp ev parts.toList))) rfl
      subst r1
      rw [hnil] at r3
      exact ⟨.sl .zero k [], v, F', w', hs, r2, by simpa only [rep, permOk, permNil] using r3, r4, r5⟩
  clear hs
  intro T' hs
  obtain ⟨hsz, -⟩ := kindT_size hk
  have hw : 0 < width k := by unfold width; split <;> omega
  have hzne : zeroT P e ≠ .top := by intro h0; rw [h0] at hez; cases k <;> simp [elemV, scalar] at hez
  obtain ⟨z, hzr, hzrep, ti, hti, hz⟩ := zeroT_run (P := P) (F := F) (V := V) rfl hzne
  have hzek := elemV_ok hez hzrep
  have hpv : (parts.map fun (i, x) => (i, ρ x)).toList = parts.toList.map fun x => (x.1, ρ x.2) := by simp
  have hfst : (evp ev parts.toList).map (·.1) = (parts.toList.map fun x => (x.1, ρ x.2)).map (·.1) := by rw [evp_fst]; simp
  have hsnd : repL F V ((evp ev parts.toList).map (·.2)) ((parts.toList.map fun x => (x.1, ρ x.2)).map (·.2)) := by have := evp_rep re parts.toList; rw [List.map_map]; exact this
  have hall := partsOk_all hpo hfst hsnd
  have hek : ∀ x ∈ List.replicate len z, elemOk k x := fun x hx => by rw [List.eq_of_mem_replicate hx]; exact hzek
  obtain ⟨f1, f2, f3⟩ := fillEls (k := k) (pv := parts.toList.map fun x => (x.1, ρ x.2)) hek (by simpa using hall)
  have hel := setEls_rep hfst hsnd (repL_replicate hzrep len)
  simp only [List.length_replicate] at f3
  refine newRow_gives i hel f2 hs (e := e) ?_
  have hisz : ti.size = width k := by
    unfold sizeT at hsz; simp [hti] at hsz; exact hsz
  rw [f3]
  by_cases h0 : len * ti.size = 0
  · have hl0 : len = 0 := by rw [hisz] at h0; rcases Nat.mul_eq_zero.1 h0 with h | h <;> omega
    subst hl0
    have hpn : parts.toList = [] := by
      cases hpl : parts.toList with
      | nil => rfl
      | cons p r => have := hall (p.1, ρ p.2) (by simp [hpl]); omega
    have hpn' : parts = #[] := by simpa using hpn
    subst hpn'
    have hr0 : Array.range 0 = #[] := rfl
    simp [Instr.buildSlice, run_underlying hu, sizeOf, typeInfo, hti, newRow, Instr.fill, setVs, flat, hr0]
  · refine run_buildSlice w t e len _ _ ti z hu hti hz (by rw [hisz]; omega) h0 ?_
    rw [hpv, hisz, flat_replicate hzek]
    exact f1

theorem makeSlice_sound {t : TypeId} {al ac : AV} {vl vc : Value} (i : Inv F V h w) (rl : rep F V al vl) (rc : rep F V ac vc) (hs : (makeSliceF P t al ac).sat T) : Gives P F V h w T (Instr.makeSlice t vl vc) := by
  unfold makeSliceF at hs
  cases he : elemT P t with
  | none => simp only [he, FR.sat] at hs
  | some e =>
  have hu : P.underlying t = some (.slice e) := by
    unfold elemT at he
    split at he
    · cases he; assumption
    · cases he
  simp only [he] at hs
  cases al <;> simp only [FR.sat] at hs
  rename_i kl n
  cases ac <;> simp only [FR.sat] at hs
  rename_i kc m
  cases hk : kindT P e with
  | none => simp only [hk, FR.sat] at hs
  | some k' =>
  cases hby : bytesT P e with
  | none => simp only [hk, hby, FR.sat] at hs
  | some by_ =>
  simp only [hk, hby] at hs
  cases hz : elemV k' (zeroT P e) with
  | false => simp only [hz, cond_false, FR.sat] at hs
  | true =>
  simp only [hz, cond_true, FR.sat] at hs
  obtain ⟨⟨h0, hnm, hbd, h63⟩, hT⟩ := hs
  subst hnm
  simp only [rep] at rl rc
  subst rl rc
  have hzne : zeroT P e ≠ .top := by intro h0; rw [h0] at hz; cases k' <;> simp [elemV, scalar] at hz
  obtain ⟨z, hzr, hzrep, ti, hti, hzz⟩ := zeroT_run (P := P) (F := F) (V := V) rfl hzne
  have hzek := elemV_ok hz hzrep
  obtain ⟨hsz, -⟩ := kindT_size hk
  have hti2 : ti.size = width k' := by unfold sizeT at hsz; simp [hti] at hsz; exact hsz
  have hti3 : ti.bytes = by_ := by unfold bytesT at hby; simp [hti] at hby; exact hby
  have hrun := run_make (P := P) w t e ti z hu hti hzz kl kc n n h0 (Int.le_refl _) (by rw [hti3, Int.mul_comm]; exact hbd) h63
  have hmc : madeCells z.cells (n.toNat * ti.size) = (flat (List.replicate n.toNat z)).toArray := by rw [hti2]; exact flat_replicate hzek n.toNat
  rw [hmc] at hrun
  have hek : ∀ x ∈ List.replicate n.toNat z, elemOk k' x := fun x hx => by rw [List.eq_of_mem_replicate hx]; exact hzek
  have hlen : (List.replicate n.toNat z).length = n.toNat := by simp
  exact newRow_gives i (repL_replicate hzrep n.toNat) hek hT (by rw [hlen]; exact hrun)

end
end Go.Sym

namespace Go.Sym

section
variable {P : Program} {F : Fix} {V : View} {h : Heap} {w : World} {T : AV → Prop}

/-- What an entry of a key is: its place, its value. -/
def goE : List (AV × AV) → AV → List MapEntry → Nat → Option (Nat × Value)
  | (a, _) :: r, k, e :: xs, i => bif keyEq k a then some (i, e.val) else goE r k xs (i + 1)
  | _, _, _, _ => none

theorem ba_beq (s t : List UInt8) : (ByteArray.mk s.toArray == ByteArray.mk t.toArray) = (s == t) := by
  rw [Bool.eq_iff_iff, Go.MapKept.bytes_beq]
  simp

theorem eqK_equal {t : TypeId} {k a : AV} {e : Bool} {kv av : Value} (hq : eqAsk P t) (he : eqK P t k a = some e) (rk : rep F V k kv) (ra : rep F V a av) : (Op.equal t kv av).run P w = .ok e w := by
  cases k <;> cases a <;> simp only [eqK] at he <;> try (cases he; done)
  case int.int k x k' y =>
    simp only [rep] at rk ra
    subst rk; subst ra
    cases hU : P.underlying t with
    | none => simp [hU] at he
    | some u =>
    cases u <;> simp only [hU] at he <;> try contradiction
    cases hk : kindEq k k' with
    | false => simp [hk] at he
    | true =>
    obtain rfl := kindEq_eq hk
    simp only [hk, cond_true, Option.some.injEq] at he
    subst he
    exact run_equalIn_int w 9999 t k _ x y hU
  case str.str x y =>
    simp only [rep] at rk ra
    subst rk; subst ra
    cases hU : P.underlying t with
    | none => simp [hU] at he
    | some u =>
    cases u <;> simp only [hU] at he <;> try contradiction
    simp only [Option.some.injEq] at he
    subst he
    have := run_equalIn_string w 9999 t (ByteArray.mk x.toArray) (ByteArray.mk y.toArray) hU
    rw [show Op.equal t (.string (ByteArray.mk x.toArray)) (.string (ByteArray.mk y.toArray)) = Op.equalIn (9999 + 1) t _ _ from rfl, this]
    simp
  case agg.agg l m =>
    simp only [rep] at rk ra
    obtain ⟨zs, rfl, hz, -⟩ := rk
    obtain ⟨us, rfl, hu, -⟩ := ra
    exact (structEq_sound hq he hz hu).1

theorem findAsking_run {t : TypeId} {k : AV} {kv : Value} (hq : eqAsk P t) (rk : rep F V k kv) : ∀ {es : List (AV × AV)} {xs : List MapEntry} {i : Nat}, (∀ e ∈ es, eqK P t k e.1 = some (keyEq k e.1)) → repL F V (es.map (·.1)) (xs.map (·.key)) →
    (Instr.findAsking t kv xs i).run P w = .ok (goE es k xs i) w
  | [], [], i, _, _ => by simp [Instr.findAsking, goE]
  | [], x :: xs, i, _, hr => by simp [repL] at hr
  | (a, v) :: es, [], i, _, hr => by simp [repL] at hr
  | (a, v) :: es, x :: xs, i, he, hr => by
    simp only [List.map_cons, repL] at hr
    obtain ⟨y, ys, hy, hra, hrr⟩ := hr
    simp only [List.cons.injEq] at hy
    obtain ⟨rfl, rfl⟩ := hy
    have h1 := eqK_equal (w := w) hq (he _ List.mem_cons_self) rk hra
    have ih := findAsking_run hq rk (es := es) (xs := xs) (i := i + 1) (fun e hm => he e (List.mem_cons_of_mem _ hm)) hrr
    simp only [Instr.findAsking, goE, Sem.run_bind, h1, Result.andThen_ok]
    cases keyEq k a
    · simp [ih]
    · simp

theorem sameNow_key {t : TypeId} {d : TypeDesc} {k a : AV} {b : Bool} {kv av : Value} (he : eqK P t k a = some (keyEq k a)) (rk : rep F V k kv) (ra : rep F V a av) (hs : Instr.sameNow d kv av = some b) : b = keyEq k a := by
  cases k <;> cases a <;> simp only [eqK] at he <;> try (cases he; done)
  case int.int k x k' y =>
    simp only [rep] at rk ra
    subst rk; subst ra
    cases d <;> simp only [Instr.sameNow] at hs <;> try (cases hs; done)
    split at hs
    · simp only [Option.some.injEq] at hs
      exact hs.symm
    · cases hs
  case str.str x y =>
    simp only [rep] at rk ra
    subst rk; subst ra
    cases d <;> simp only [Instr.sameNow] at hs <;> try (cases hs; done)
    simp only [Option.some.injEq] at hs
    rw [← hs, ba_beq]
    rfl
  case agg.agg l m =>
    simp only [rep] at rk ra
    obtain ⟨zs, rfl, hz, -⟩ := rk
    obtain ⟨us, rfl, hu, -⟩ := ra
    cases d <;> simp only [Instr.sameNow] at hs <;> cases hs

theorem findNow_go {t : TypeId} {d : TypeDesc} {k : AV} {kv : Value} (rk : rep F V k kv) : ∀ {es : List (AV × AV)} {xs : List MapEntry} {i : Nat} {r : Option (Nat × Value)}, (∀ e ∈ es, eqK P t k e.1 = some (keyEq k e.1)) → repL F V (es.map (·.1)) (xs.map (·.key)) →
    Instr.findNow d kv xs i = some r → r = goE es k xs i
  | [], [], i, r, _, _, hn => by simpa [Instr.findNow, goE] using hn.symm
  | [], x :: xs, i, r, _, hr, _ => by simp [repL] at hr
  | (a, v) :: es, [], i, r, _, hr, _ => by simp [repL] at hr
  | (a, v) :: es, x :: xs, i, r, he, hr, hn => by
    simp only [List.map_cons, repL] at hr
    obtain ⟨y, ys, hy, hra, hrr⟩ := hr
    simp only [List.cons.injEq] at hy
    obtain ⟨rfl, rfl⟩ := hy
    simp only [Instr.findNow] at hn
    cases hs : Instr.sameNow d kv x.key with
    | none => rw [hs] at hn; cases hn
    | some b =>
      have hb := sameNow_key (he _ List.mem_cons_self) rk hra hs
      rw [hs] at hn
      simp only [goE]
      rw [← hb]
      cases b
      · exact findNow_go rk (fun e hm => he e (List.mem_cons_of_mem _ hm)) hrr hn
      · simpa using hn.symm

theorem eqK_under {t : TypeId} {k a : AV} {e : Bool} (he : eqK P t k a = some e) : ∃ u, P.underlying t = some u := by
  cases hU : P.underlying t with
  | some u => exact ⟨u, rfl⟩
  | none => cases k <;> cases a <;> simp [eqK, structEq, hU] at he

theorem findKey_run {t : TypeId} {k : AV} {kv : Value} {es : List (AV × AV)} {xs : List MapEntry} (hm : mapAsk P t es k) (rk : rep F V k kv) (hr : repL F V (es.map (·.1)) (xs.map (·.key))) :
    (Instr.findKey t kv xs).run P w = .ok (goE es k xs 0) w := by
  obtain ⟨hq, h0, he⟩ := hm
  obtain ⟨u, hU⟩ := eqK_under h0
  unfold Instr.findKey
  simp only [Sem.run_bind, run_underlying hU, Result.andThen_ok]
  cases hn : Instr.findNow u kv xs 0 with
  | none => exact findAsking_run hq rk he hr
  | some r => simp [findNow_go rk he hr hn]

theorem fields_check {em : Bool} {d : Nat} {zs : List Value} : ∀ {fs : List Field} {n : Nat} {a : List AV} {e : Bool}, fieldsEq P fs n a a = some e → repL F V a (zs.drop n) →
    ∀ f ∈ fs, ∃ x, (part f.type zs.toArray f.offset).run P w = .ok x w ∧ (Instr.checkKey em (d + 1) f.type x).run P w = .ok () w
  | [], _, _, _, _, _, f, hf => by cases hf
  | g :: fs, n, [], e, he, ha, f, hf => by simp [fieldsEq] at he
  | g :: fs, n, a0 :: a, e, he, ha, f, hf => by
    simp only [fieldsEq] at he
    cases hc : (g.name != "_" && Nat.beq g.offset n) with
    | false => simp [hc] at he
    | true =>
    simp only [hc, cond_true] at he
    simp only [Bool.and_eq_true] at hc
    have ho := Nat.eq_of_beq_eq_true hc.2
    simp only [repL] at ha
    obtain ⟨x, zr, hz, hxa, hra⟩ := ha
    have hza : zs.drop (n + 1) = zr := by rw [← List.drop_drop, hz]; rfl
    have hxn : zs.toArray[g.offset]? = some x := by
      rw [ho]
      have : (zs.drop n)[0]? = some x := by rw [hz]; rfl
      simpa using this
    cases h1 : fieldsEq P fs (n + 1) a a with
    | none => rw [h1] at he; simp at he
    | some e1 =>
    rw [h1] at he
    simp only at he
    rcases List.mem_cons.1 hf with rfl | hf
    · have key : ∀ u, P.underlying f.type = some u → (match u with | .struct _ | .array _ _ | .interface _ => true | _ => false) = false → ∃ x, (part f.type zs.toArray f.offset).run P w = .ok x w ∧ (Instr.checkKey em (d + 1) f.type x).run P w = .ok () w := fun u hU hu => by
        have hag : (isAgg f.type).run P w = .ok false w := run_isAgg hU (by cases u <;> simp_all)
        refine ⟨x, ?_, ?_⟩
        · unfold part; simp only [Sem.run_bind, hag, Result.andThen_ok, Bool.false_eq_true, if_false, hxn, Sem.run_pure]
        · unfold Instr.checkKey
          simp only [Sem.run_bind, run_underlying hU, Result.andThen_ok]
          cases u <;> simp_all
      cases hU : P.underlying f.type with
      | none => simp [hU] at he
      | some u =>
        refine key u hU ?_
        cases u <;> simp_all
    · exact fields_check h1 (hza ▸ hra) f hf

theorem checkKey_run {em : Bool} {t : TypeId} {k : AV} {kv : Value} {e : Bool} (he : eqK P t k k = some e) (rk : rep F V k kv) : (Instr.checkKey em 10000 t kv).run P w = .ok () w := by
  obtain ⟨u, hU⟩ := eqK_under he
  rw [show (10000 : Nat) = 9998 + 1 + 1 from rfl, Instr.checkKey]
  simp only [Sem.run_bind, run_underlying hU, Result.andThen_ok]
  cases k <;> simp only [eqK] at he <;> try (cases he; done)
  case int k x =>
    simp only [rep] at rk
    subst rk
    cases u <;> simp only [hU] at he <;> try contradiction
    simp
  case str x =>
    simp only [rep] at rk
    subst rk
    cases u <;> simp only [hU] at he <;> try contradiction
    simp
  case agg l =>
    simp only [rep] at rk
    obtain ⟨zs, rfl, hz, -⟩ := rk
    unfold structEq at he
    cases u <;> simp only [hU] at he <;> try contradiction
    rename_i fs
    have hall := fields_check (w := w) (em := em) (d := 9998) he (zs := zs) (by simpa using hz)
    simp only
    rw [← Array.forIn_toList]
    clear he hU
    generalize fs.toList = L at hall
    induction L with
    | nil => simp
    | cons f L ih =>
      obtain ⟨x, h1, h2⟩ := hall f (by simp)
      by_cases hn : f.name = "_"
      · simp only [List.forIn_cons, Sem.run_bind, hn, ne_eq, not_true_eq_false, if_false, Sem.run_pure, Result.andThen_ok]
        have ih := ih fun y hy => hall y (by simp [hy])
        simpa only [Sem.run_bind, Sem.run_pure, ne_eq] using ih
      · simp only [List.forIn_cons, Sem.run_bind, hn, ne_eq, not_false_eq_true, if_true, Result.andThen_ok, h1, h2, Sem.run_pure]
        have ih := ih fun y hy => hall y (by simp [hy])
        simpa only [Sem.run_bind, Sem.run_pure, ne_eq] using ih

/-- The entry of a key: as the values stand. -/
theorem goE_find {k : AV} : ∀ {es : List (AV × AV)} {xs : List MapEntry} {i : Nat}, repL F V (es.map (·.1)) (xs.map (·.key)) → repL F V (es.map (·.2)) (xs.map (·.val)) →
    (findE es k = none ∧ goE es k xs i = none ∧ (∀ v, setE es k v = es ++ [(k, v)]) ∧ delE es k = es) ∨
    ∃ j a v e, findE es k = some v ∧ goE es k xs i = some (i + j, e.val) ∧ xs[j]? = some e ∧ rep F V v e.val ∧ es[j]? = some (a, v) ∧ keyEq k a = true ∧ rep F V a e.key ∧ (∀ v', setE es k v' = es.set j (a, v')) ∧ delE es k = es.eraseIdx j
  | [], xs, i, _, _ => .inl ⟨rfl, by cases xs <;> rfl, fun _ => rfl, rfl⟩
  | (a, v) :: es, [], i, hr, _ => by simp [repL] at hr
  | (a, v) :: es, x :: xs, i, hr, hv => by
    simp only [List.map_cons, repL] at hr hv
    obtain ⟨y, ys, hy, hra, hrr⟩ := hr
    simp only [List.cons.injEq] at hy
    obtain ⟨rfl, rfl⟩ := hy
    obtain ⟨y, ys, hy, hva, hvr⟩ := hv
    simp only [List.cons.injEq] at hy
    obtain ⟨rfl, rfl⟩ := hy
    cases hk : keyEq k a with
    | true => exact .inr ⟨0, a, v, x, by simp [findE, hk], by simp [goE, hk], rfl, hva, rfl, hk, hra, fun v' => by simp [setE, hk], by simp [delE, hk]⟩
    | false =>
      rcases goE_find (k := k) (i := i + 1) hrr hvr with ⟨h1, h2, h3, h4⟩ | ⟨j, a', v', e, h1, h2, h3, h4, h5, h6, h7, h8, h9⟩
      · exact .inl ⟨by simp [findE, hk, h1], by simp [goE, hk, h2], fun v' => by simp [setE, hk, h3 v'], by simp [delE, hk, h4]⟩
      · refine .inr ⟨j + 1, a', v', e, by simp [findE, hk, h1], ?_, by simpa using h3, h4, by simpa using h5, h6, h7, fun v'' => by simp [setE, hk, h8 v''], by simp [delE, hk, h9]⟩
        simp only [goE, hk, cond_false, h2]
        congr 2
        omega
end
end Go.Sym

namespace Go.Sym

section
variable {P : Program} {F : Fix} {V : View} {h : Heap} {w : World} {T : AV → Prop}

theorem mapT_under {t kt et : TypeId} (e : mapT P t = some (kt, et)) : P.underlying t = some (.map kt et) := by
  unfold mapT at e
  split at e
  · cases e; assumption
  · cases e

theorem look_core {kt et : TypeId} {k : AV} {kv z : Value} {es : List (AV × AV)} {xs : Array MapEntry} (ok : Bool) (hm : mapAsk P kt es k) (rk : rep F V k kv) (hr : repL F V (es.map (·.1)) (xs.toList.map (·.key))) (hv : repL F V (es.map (·.2)) (xs.toList.map (·.val)))
    (hz : ∀ w, (zeroValue et).run P w = .ok z w) (hzr : rep F V (zeroT P et) z) :
    ∃ v, ((do
      Instr.checkKey xs.isEmpty 10000 kt kv
      let (v, okv) ← match ← Instr.findKey kt kv xs.toList with
        | some (_, v) => pure (v, true)
        | none => pure (← zeroValue et, false)
      pure (if ok then Value.tuple #[v, .bool okv] else v)) : Sem Value).run P w = .ok v w ∧ rep F V (lookV es k (zeroT P et) ok) v := by
  have hc := checkKey_run (w := w) (em := xs.isEmpty) hm.2.1 rk
  have hf := findKey_run (w := w) hm rk hr
  have tupr : ∀ {a : AV} {x : Value} (b : Bool), rep F V a x → rep F V (.tup [a, .bool b]) (.tuple #[x, .bool b]) := fun {a x} b r => by
    simp only [rep, repL]
    exact ⟨[x, .bool b], rfl, x, [.bool b], rfl, r, .bool b, [], rfl, rfl, rfl⟩
  rcases goE_find (k := k) (i := 0) hr hv with ⟨h1, h2, -, -⟩ | ⟨j, a, v, e, h1, h2, -, h4, -⟩
  · rw [h2] at hf
    cases ok
    · exact ⟨z, by simp [hc, hf, hz], by simp only [lookV, h1, cond_false]; exact hzr⟩
    · exact ⟨.tuple #[z, .bool false], by simp [hc, hf, hz], by simp only [lookV, h1, cond_true]; exact tupr false hzr⟩
  · rw [h2] at hf
    cases ok
    · exact ⟨e.val, by simp [hc, hf], by simp only [lookV, h1, cond_false]; exact h4⟩
    · exact ⟨.tuple #[e.val, .bool true], by simp [hc, hf], by simp only [lookV, h1, cond_true]; exact tupr true h4⟩

theorem lookup_sound {t : TypeId} {m k : AV} {mv kv : Value} {ok : Bool} (i : Inv F V h w) (rm : rep F V m mv) (rk : rep F V k kv) (hs : (lookupF P t m k ok h).sat T) : Gives P F V h w T (Instr.lookup t mv kv ok) := by
  unfold lookupF at hs
  cases hmt : mapT P t with
  | none => simp [hmt, FR.sat] at hs
  | some q =>
  obtain ⟨kt, et⟩ := q
  simp only [hmt] at hs
  have hU := mapT_under hmt
  cases hnt : notTop (zeroT P et) with
  | false => simp [hnt, FR.sat] at hs
  | true =>
  simp only [hnt, cond_true] at hs
  have hne : zeroT P et ≠ .top := by intro h0; rw [h0] at hnt; cases hnt
  obtain ⟨z, hz, hzr, -⟩ := zeroT_run (P := P) (F := F) (V := V) rfl hne
  cases m <;> try exact hs.elim
  case nilm =>
    simp only [rep] at rm
    subst rm
    obtain ⟨ha, hT⟩ := hs
    obtain ⟨v, hrun, hrep⟩ := look_core (w := w) (xs := #[]) ok ha rk rfl rfl hz hzr
    refine .pure i hT ?_ hrep
    unfold Instr.lookup
    simp only [Sem.run_bind, run_underlying hU, Result.andThen_ok, Sem.run_pure] at hrun ⊢
    exact hrun
  case map id =>
    simp only [rep] at rm
    obtain ⟨b, hb, rfl⟩ := rm
    cases hg : get h id with
    | none => simp [hg, FR.sat] at hs
    | some ob =>
    cases ob <;> simp only [hg] at hs <;> try exact hs.elim
    case map es =>
      obtain ⟨x, ⟨-, hx⟩, ha, hT⟩ := hs
      simp only [Int.toNat_zero, List.getElem?_cons_zero, Option.some.injEq] at hx
      subst hx
      obtain ⟨b', xs, clock, hv, hh, hr, hvr, -⟩ := i.objs id _ hg
      rw [hb] at hv; cases hv
      obtain ⟨v, hrun, hrep⟩ := look_core (w := w) ok ha rk hr hvr hz hzr
      refine .pure i hT ?_ hrep
      unfold Instr.lookup
      simp only [Sem.run_bind, run_underlying hU, Result.andThen_ok, Sem.run_pure, Go.MapKept.run_getObj_map hh] at hrun ⊢
      exact hrun
    case ment es mj ms =>
      obtain ⟨x, ⟨-, hx⟩, ha, hT⟩ := hs
      simp only [Int.toNat_zero, List.getElem?_cons_zero, Option.some.injEq] at hx
      subst hx
      obtain ⟨b', xs, clock, hv, hh, hr, hvr, -⟩ := i.objs id _ hg
      rw [hb] at hv; cases hv
      obtain ⟨v, hrun, hrep⟩ := look_core (w := w) ok ha rk hr hvr hz hzr
      refine .pure i hT ?_ hrep
      unfold Instr.lookup
      simp only [Sem.run_bind, run_underlying hU, Result.andThen_ok, Sem.run_pure, Go.MapKept.run_getObj_map hh] at hrun ⊢
      exact hrun
    case mapN es nb nc =>
      obtain ⟨x, ⟨-, hx⟩, ha, hT⟩ := hs
      simp only [Int.toNat_zero, List.getElem?_cons_zero, Option.some.injEq] at hx
      subst hx
      obtain ⟨b', xs, clock, hv, hh, hr, hvr, -⟩ := i.objs id _ hg
      rw [hb] at hv; cases hv
      obtain ⟨v, hrun, hrep⟩ := look_core (w := w) ok ha rk hr hvr hz hzr
      refine .pure i hT ?_ hrep
      unfold Instr.lookup
      simp only [Sem.run_bind, run_underlying hU, Result.andThen_ok, Sem.run_pure, Go.MapKept.run_getObj_map hh] at hrun ⊢
      exact hrun
end
end Go.Sym

namespace Go.Sym

section
variable {P : Program} {F : Fix} {V : View} {h : Heap} {w : World} {T : AV → Prop}

/-- What an operation comes to: a value; the objects by name are as they were. -/
def OpGives (P : Program) (F : Fix) (V : View) (h : Heap) (w : World) (T : AV → Prop) (s : Sem Next) : Prop :=
  ∃ a v F' w', T a ∧ s.run P w = .ok (.value v) w' ∧ rep F' V a v ∧ Inv F' V h w' ∧ Step F V h w F' V h w'

theorem Gives.op {s : Sem Value} (g : Gives P F V h w T s) : OpGives P F V h w T (s >>= fun x => Pure.pure (Next.value x)) := by
  obtain ⟨a, v, F', w', r1, r2, r3⟩ := g
  exact ⟨a, v, F', w', r1, by simp [r2], r3⟩

theorem OpGives.pure {s : Sem Next} {a : AV} {v : Value} (i : Inv F V h w) (hT : T a) (hr : s.run P w = .ok (.value v) w) (r : rep F V a v) : OpGives P F V h w T s :=
  ⟨a, v, F, w, hT, hr, r, i, .refl _ _ _ _⟩

theorem opt_some {ev : Operand → AV} {ρ : Operand → Value} (re : ∀ x, rep F V (ev x) (ρ x)) (o : Option Operand) : ∀ a, o.map ev = some a → ∃ x, o.map ρ = some x ∧ rep F V a x := by
  intro a ha
  cases o with
  | none => simp at ha
  | some x => simp at ha; subst ha; exact ⟨ρ x, rfl, re x⟩
theorem opt_none {ev : Operand → AV} {ρ : Operand → Value} (o : Option Operand) (h : o.map ev = none) : o.map ρ = none := by
  cases o with
  | none => rfl
  | some x => simp at h

theorem fval_sound {o : Oper} {ev : Operand → AV} {ρ : Operand → Value} (i : Inv F V h w) (re : ∀ x, rep F V (ev x) (ρ x)) (hs : (fval P o.op ev h).sat T) :
    OpGives P F V h w T (execOp ρ o) := by
  obtain ⟨dst, op, type, pos, after, guard⟩ := o
  simp only at hs
  cases op <;> try exact hs.elim
  case move x => exact .pure i hs rfl (re x)
  case assign x => exact .pure i hs rfl (re x)
  case load t a => exact (load_sound i (re a) hs).op
  case lookup t m k ok => exact (lookup_sound i (re m) (re k) hs).op
  case nilCheck x =>
    simp only [fval] at hs
    have rx := re x
    cases hx : ev x <;> simp only [hx] at hs rx <;> try exact hs.elim
    · simp only [rep] at rx
      obtain ⟨b, hb, hv⟩ := rx
      refine .pure (v := ρ x) i hs ?_ (by simp only [rep]; exact ⟨b, hb, hv⟩)
      simp only [execOp, hv]; rfl
    · simp only [rep] at rx
      have rx' := rx
      obtain ⟨b, o, y, hv, _⟩ := rx
      refine .pure (v := ρ x) i hs ?_ (by simp only [rep]; exact rx')
      simp only [execOp, hv]; rfl
  case binOp op t x y yt => exact (bin_sound hs i (re x) (re y)).op
  case unOp op t x => exact (unOp_sound i (re x) hs).op
  case convert src dst' x =>
    simp only [fval] at hs
    cases hu : P.underlying src with
    | none => simp [hu, FR.sat] at hs
    | some u =>
    simp only [hu] at hs
    exact (conv_sound i (re x) ⟨u, hu⟩ hs).op
  case makeInterface t x =>
    simp only [fval] at hs
    cases hu : P.underlying t with
    | none => simp [hu, FR.sat] at hs
    | some u =>
    have hc : P.concrete t = true := by
      unfold Program.concrete
      rw [hu]
      cases u <;> simp_all [FR.sat]
    have hT : T (.iface t (ev x)) := by cases u <;> simp_all [FR.sat]
    exact (Gives.pure (v := .iface t (ρ x)) i hT (run_makeInterface w t _ hc) (by simp only [rep]; exact ⟨_, rfl, re x⟩)).op
  case makeFunc fn first captured =>
    cases fn <;> try exact hs.elim
    rename_i f
    simp only [fval] at hs
    split at hs
    · rename_i hf
      refine .pure (v := .func (.func f) #[] (captured.toList.map ρ).toArray) i hs ?_ (by simp only [rep]; exact ⟨_, rfl, evs_rep re _⟩)
      have : first = #[] := by simpa using hf
      subst this
      have e : captured.map ρ = (captured.toList.map ρ).toArray := by apply Array.ext'; simp
      simp [execOp, Instr.makeFunc, e]
    · exact hs.elim
  case slice t x lo hi mx =>
    simp only [fval] at hs
    have rx := re x
    cases hx : ev x <;> simp only [hx] at hs rx <;> try exact hs.elim
    · cases hu : P.underlying t with
      | none => simp [hu, FR.sat] at hs
      | some u =>
      cases u <;> simp only [hu] at hs <;> try exact hs.elim
      exact (slice_str_sound i rx (opt_some re lo) (opt_none lo) (opt_some re hi) (opt_none hi) (opt_none mx) hu hs).op
    · cases hk : elemSize P t with
      | none => simp [hk, FR.sat] at hs
      | some k =>
      simp only [hk] at hs
      exact (slice_nils_sound i rx (opt_some re lo) (opt_none lo) (opt_some re hi) (opt_none hi) (opt_some re mx) (opt_none mx) hk hs).op
    · rename_i p k els
      cases hk : elemSize P t with
      | none => simp [hk, FR.sat] at hs
      | some sz =>
      simp only [hk] at hs
      cases hb : Nat.beq k sz with
      | false => simp [hb, FR.sat] at hs
      | true =>
      simp only [hb, cond_true] at hs
      obtain rfl := Nat.eq_of_beq_eq_true hb
      exact (slice_sl_sound i rx (opt_some re lo) (opt_none lo) (opt_some re hi) (opt_none hi) (opt_some re mx) (opt_none mx) hk hs).op
  case fieldAddr s x f => exact (fieldAddr_sound i (re x) hs).op
  case field s x f => exact (field_sound i (re x) hs).op
  case indexAddr t x ix => exact (index_sound i (re x) (re ix) hs).op
  case index t x ix => exact (indexStr_sound i (re x) (re ix) hs).op
  case build t parts => exact (build_sound i re hs).op
  case buildSlice t len parts => exact (buildSlice_sound i re hs).op
  case makeSlice t l c => exact (makeSlice_sound i (re l) (re c) hs).op
  case extract x n =>
    simp only [fval] at hs
    have rx := re x
    cases hx : ev x <;> simp only [hx] at hs rx <;> try exact hs.elim
    rename_i l
    split at hs
    · rename_i v hv
      simp only [rep] at rx
      obtain ⟨vs, hvs, hl⟩ := rx
      obtain ⟨y, hy, hr⟩ := hl.get _ _ hv
      refine (Gives.pure (v := y) i hs ?_ hr).op
      have : vs.toArray[n]? = some y := by simpa using hy
      simp only [Instr.extract, hvs, this, Sem.run_pure]
    · exact hs.elim
  case call c =>
    obtain ⟨callee, args, argTypes⟩ := c
    cases callee <;> try exact hs.elim
    rename_i b
    have hin : ∀ (b : Builtin), (execOp ρ { dst, op := .call { callee := .builtin b, args, argTypes }, type, pos, after, guard } : Sem Next) = builtin b argTypes type (args.map fun | .const _ => true | _ => false) (args.map ρ) := fun b => rfl
    cases b <;> try exact hs.elim
    case len =>
      simp only [fval] at hs
      split at hs
      · rename_i x t ts ha ht
        cases hl : lenV P t (ev x) with
        | none =>
          rw [hin]
          have e1 : args.map ρ = #[ρ x] := by apply Array.ext'; simp [ha]
          have e2 : argTypes = (t :: ts).toArray := by apply Array.ext'; simp [ht]
          rw [e1, e2]
          simp only [hl] at hs
          have rx := re x
          cases hx : ev x <;> simp only [hx] at hs rx <;> try exact hs.elim
          rename_i id
          cases hmt : mapT P t with
          | none => simp only [hmt] at hs; exact hs.elim
          | some q =>
          obtain ⟨kt, et⟩ := q
          simp only [hmt] at hs
          have hu := mapT_under hmt
          simp only [rep] at rx
          obtain ⟨b, hb, hrx⟩ := rx
          cases hg : get h id with
          | none => simp only [hg] at hs; exact hs.elim
          | some ob =>
          cases ob <;> simp only [hg] at hs <;> try exact hs.elim
          case map es =>
            obtain ⟨b', xs, c, hv, hh, h1, -⟩ := i.objs id _ hg
            rw [hb] at hv; cases hv
            have hlen := h1.length
            simp only [List.length_map, Array.length_toList] at hlen
            exact (Gives.int (P := P) i hs (by rw [hrx]; simp [Builtin.len_, run_underlying hu, goInt, Go.MapKept.run_getObj_map hh, hlen])).op
          case mapN es nb nc =>
            obtain ⟨b', xs, c, hv, hh, h1, -⟩ := i.objs id _ hg
            rw [hb] at hv; cases hv
            have hlen := h1.length
            simp only [List.length_map, Array.length_toList] at hlen
            exact (Gives.int (P := P) i hs (by rw [hrx]; simp [Builtin.len_, run_underlying hu, goInt, Go.MapKept.run_getObj_map hh, hlen])).op
        | some n =>
        simp only [hl, FR.sat] at hs
        have g := len_sound (P := P) (ty := type) (ts := ts) i (re x) hl hs
        rw [hin]
        have e1 : args.map ρ = #[ρ x] := by apply Array.ext'; simp [ha]
        have e2 : argTypes = (t :: ts).toArray := by apply Array.ext'; simp [ht]
        rw [e1, e2]
        exact g.op
      · exact hs.elim
    case min =>
      simp only [fval] at hs
      have hl := evs_rep re args.toList
      rw [hin]
      have e : ∀ a r, args.toList = a :: r → (args.map ρ).toList = ρ a :: r.map ρ := by intro a r ha; simp [ha]
      cases ha : args.toList with
      | nil => simp [ha, evs, FR.sat] at hs
      | cons x r =>
      rw [ha] at hs hl
      simp only [evs] at hs hl
      simp only [List.map_cons, repL] at hl
      obtain ⟨x', r', hxr, hx, hr⟩ := hl
      simp only [List.cons.injEq] at hxr
      obtain ⟨rfl, rfl⟩ := hxr
      cases hm : minV (evs ev r) (ev x) <;> simp only [hm] at hs <;> try exact hs.elim
      rcases min_fold (P := P) (w := w) hr hx with h0 | ⟨y, h1, h2⟩
      · rw [h0] at hm; cases hm
      · rw [hm] at h2
        exact (Gives.pure (v := y) i hs (by simp only [Builtin.min_, e x r ha]; exact h1) h2).op
    case max =>
      simp only [fval] at hs
      have hl := evs_rep re args.toList
      rw [hin]
      have e : ∀ a r, args.toList = a :: r → (args.map ρ).toList = ρ a :: r.map ρ := by intro a r ha; simp [ha]
      cases ha : args.toList with
      | nil => simp [ha, evs, FR.sat] at hs
      | cons x r =>
      rw [ha] at hs hl
      simp only [evs] at hs hl
      simp only [List.map_cons, repL] at hl
      obtain ⟨x', r', hxr, hx, hr⟩ := hl
      simp only [List.cons.injEq] at hxr
      obtain ⟨rfl, rfl⟩ := hxr
      cases hm : maxV (evs ev r) (ev x) <;> simp only [hm] at hs <;> try exact hs.elim
      rcases max_fold (P := P) (w := w) hr hx with h0 | ⟨y, h1, h2⟩
      · rw [h0] at hm; cases hm
      · rw [hm] at h2
        exact (Gives.pure (v := y) i hs (by simp only [Builtin.max_, e x r ha]; exact h1) h2).op

end
end Go.Sym

namespace Go.Sym

theorem beqF {i j : Nat} (h : i ≠ j) : Nat.beq i j = false := by
  cases e : Nat.beq i j with
  | false => rfl
  | true => exact absurd (Nat.eq_of_beq_eq_true e) h

theorem get_upd (h : Heap) (id : Nat) (o : AObj) (j : Nat) : get (upd h id o) j = if j = id then (get h id).map (fun _ => o) else get h j := by
  induction h with
  | nil => simp [upd, get]
  | cons p r ih =>
    obtain ⟨i, x⟩ := p
    by_cases h1 : i = id
    · subst h1
      by_cases h2 : j = i
      · subst h2; simp [upd, get]
      · have : Nat.beq i j = false := beqF fun e => h2 e.symm
        simp [upd, get, this, h2]
    · have e1 : Nat.beq i id = false := beqF h1
      by_cases h2 : i = j
      · subst h2
        simp [upd, get, e1, h1]
      · have e2 : Nat.beq i j = false := beqF h2
        simp only [upd, get, e1, e2, cond_false, ih]

theorem withUpd_eq (h : Heap) (id : Nat) (o : AObj) (k : Heap → R) : withUpd h id o k = k (upd h id o) := by
  induction h generalizing k with
  | nil => rfl
  | cons p r ih =>
    obtain ⟨i, x⟩ := p
    simp only [withUpd, upd]
    cases Nat.beq i id <;> simp [ih]

theorem get_cons (h : Heap) (n : Nat) (o : AObj) (j : Nat) : get ((n, o) :: h) j = if j = n then some o else get h j := by
  by_cases h2 : n = j
  · subst h2; simp [get]
  · have e2 : Nat.beq n j = false := beqF h2
    simp [get, e2, Ne.symm h2]

section
variable {P : Program} {F : Fix} {V : View} {h : Heap} {w : World}

def View.addObj (V : View) (n b : Nat) : View := { V with obj := fun id => if id = n then some b else V.obj id }
def View.setTok (V : View) (n : Nat) (x : Tok) : View := { V with tok := fun id => if id = n then some x else V.tok id }

theorem View.le_addObj {n b : Nat} (hn : V.obj n = none) : V.le (V.addObj n b) :=
  ⟨fun id c e => by
    simp only [View.addObj]
    split
    · rename_i h0; subst h0; rw [hn] at e; cases e
    · exact e, fun _ x e => ⟨x, e, Nat.le_refl _, fun _ => rfl⟩⟩

theorem View.le_setTok {n : Nat} {x : Tok} (hn : ∀ y, V.tok n = some y → y.st < x.st) : V.le (V.setTok n x) :=
  ⟨fun _ _ e => e, fun t y e => by
    simp only [View.setTok]
    split
    · rename_i h0; subst h0
      have := hn y e
      exact ⟨x, rfl, by omega, fun h => by omega⟩
    · exact ⟨y, e, Nat.le_refl _, fun _ => rfl⟩⟩

theorem objRep.view {V' : View} {id : Nat} {o : AObj} (hV : V.le V') (ho : ∀ s, o = .tip s → V'.tok id = V.tok id) (k : objRep F V w id o) : objRep F V' w id o := by
  cases o with
  | cells l =>
    obtain ⟨b, vs, e, hv, hh, hr, h1⟩ := k
    exact ⟨b, vs, e, hV.obj _ _ hv, hh, hr.mono (.refl F) hV, h1⟩
  | tip s =>
    obtain ⟨x, hx, hr⟩ := k
    exact ⟨x, by rw [ho s rfl]; exact hx, hr⟩
  | map es =>
    obtain ⟨b, xs, c, hv, hh, h1, h2, hr⟩ := k
    exact ⟨b, xs, c, hV.obj _ _ hv, hh, h1.mono (.refl F) hV, h2.mono (.refl F) hV, hr⟩
  | ment es mj ms =>
    obtain ⟨b, xs, c, hv, hh, h1, h2, hr⟩ := k
    exact ⟨b, xs, c, hV.obj _ _ hv, hh, h1.mono (.refl F) hV, h2.mono (.refl F) hV, hr⟩
  | mapN es nb nc =>
    obtain ⟨b, xs, c, hv, hh, h1, h2, hr⟩ := k
    exact ⟨b, xs, c, hV.obj _ _ hv, hh, h1.mono (.refl F) hV, h2.mono (.refl F) hV, hr⟩
  | iter im isn ise il =>
    obtain ⟨b, xs, c, hv, hh, h1⟩ := k
    exact ⟨b, xs, c, hV.obj _ _ hv, hh, hV.obj _ _ h1⟩
  | loop en kk ps as bo st =>
    obtain ⟨b, r, hv, hh, h1, h2, h3, h4, h5, hr⟩ := k
    exact ⟨b, r, hV.obj _ _ hv, hh, h1, h2, h3, h4, fun t => rep.mono (.refl F) hV _ _ (h5 t), hr⟩

/-- An object stays, where its block does. -/
theorem objRep.keep {w' : World} {id : Nat} {o : AObj} (k : objRep F V w id o) (hk : ∀ b, own V id o = some b → w'.heap[b]? = w.heap[b]?) : objRep F V w' id o := by
  cases o with
  | cells l =>
    obtain ⟨b, vs, e, hv, hh, hr⟩ := k
    exact ⟨b, vs, e, hv, by rw [hk b hv]; exact hh, hr⟩
  | tip s =>
    obtain ⟨x, hx, hs, hb⟩ := k
    exact ⟨x, hx, hs, fun b e => by rw [hk b (by simp [own, hx, e])]; exact hb b e⟩
  | map es =>
    obtain ⟨b, xs, c, hv, hh, hr⟩ := k
    exact ⟨b, xs, c, hv, by rw [hk b hv]; exact hh, hr⟩
  | ment es mj ms =>
    obtain ⟨b, xs, c, hv, hh, hr⟩ := k
    exact ⟨b, xs, c, hv, by rw [hk b hv]; exact hh, hr⟩
  | mapN es nb nc =>
    obtain ⟨b, xs, c, hv, hh, hr⟩ := k
    exact ⟨b, xs, c, hv, by rw [hk b hv]; exact hh, hr⟩
  | iter im isn ise il =>
    obtain ⟨b, xs, c, hv, hh, hr⟩ := k
    exact ⟨b, xs, c, hv, by rw [hk b hv]; exact hh, hr⟩
  | loop en kk ps as bo st =>
    obtain ⟨b, r, hv, hh, hr⟩ := k
    exact ⟨b, r, hv, by rw [hk b hv]; exact hh, hr⟩

theorem fresh_get (i : Inv F V h w) {nx id : Nat} (hf : fresh V nx) (hle : nx ≤ id) : get h id = none := by
  cases e : get h id with
  | none => rfl
  | some o =>
    obtain ⟨h1, h2⟩ := hf id hle
    have := i.objs id o e
    cases o with
    | cells l => obtain ⟨b, vs, el, hv, _⟩ := this; rw [h1] at hv; cases hv
    | tip s => obtain ⟨x, hx, _⟩ := this; rw [h2] at hx; cases hx
    | map es => obtain ⟨b, xs, c, hv, _⟩ := this; rw [h1] at hv; cases hv
    | ment es mj ms => obtain ⟨b, xs, c, hv, _⟩ := this; rw [h1] at hv; cases hv
    | mapN es nb nc => obtain ⟨b, xs, c, hv, _⟩ := this; rw [h1] at hv; cases hv
    | iter im isn ise il => obtain ⟨b, xs, c, hv, _⟩ := this; rw [h1] at hv; cases hv
    | loop en kk ps as bo st => obtain ⟨b, r, hv, _⟩ := this; rw [h1] at hv; cases hv

theorem cellsRep {l : List AV} {vs : List Value} (hl : repL F V l vs) : repL F V l (vs.take l.length) := by
  rw [List.take_of_length_le (by rw [hl.length]; exact Nat.le_refl _)]
  exact hl

/-- A new object by name. -/
theorem Inv.new (i : Inv F V h w) {nx : Nat} (hf : fresh V nx) {l : List AV} {vs : Array Value} {e : TypeId} (hl : repL F V l vs.toList) (ho : ∀ x ∈ vs.toList, x.oneCell' = true) :
    Inv F (V.addObj nx w.heap.size) ((nx, .cells l) :: h) (w.alloc (.cells vs e)) ∧ Step F V h w F (V.addObj nx w.heap.size) ((nx, .cells l) :: h) (w.alloc (.cells vs e)) ∧ fresh (V.addObj nx w.heap.size) (nx + 1) := by
  have hn := hf nx (Nat.le_refl _)
  have hV : V.le (V.addObj nx w.heap.size) := View.le_addObj hn.1
  have hgn := fresh_get i hf (Nat.le_refl nx)
  have hown : ∀ id o, id ≠ nx → own (V.addObj nx w.heap.size) id o = own V id o := by
    intro id o hne
    cases o <;> simp [own, View.addObj, hne]
  have holds' : ∀ id o, get ((nx, .cells l) :: h) id = some o → (id = nx ∧ o = .cells l) ∨ (id ≠ nx ∧ get h id = some o) := by
    intro id o hg
    rw [get_cons] at hg
    split at hg
    · cases hg; exact .inl ⟨by assumption, rfl⟩
    · exact .inr ⟨by assumption, hg⟩
  refine ⟨⟨?_, ?_, ?_, ?_⟩, ⟨.refl F, hV, ?_, fun _ _ _ k => .inl k, by simp, fun b hb _ => heap_old w _ hb, rfl, rfl, rfl, Nat.le_refl _⟩, ?_⟩
  · intro b o x hx
    rw [World.cell?_alloc_lt w _ ⟨b, o, none⟩ (i.fixed_lt hx)]
    exact i.fixed b o x hx
  · intro id o hg
    rcases holds' id o hg with ⟨rfl, rfl⟩ | ⟨hne, hg⟩
    · exact ⟨w.heap.size, vs, e, by simp [View.addObj], heap_new w _, cellsRep (hl.mono (.refl F) hV), fun x hx => ho x (List.mem_of_mem_take hx)⟩
    · exact ((i.objs id o hg).alloc).view hV (fun s _ => rfl)
  · intro id o b off hg hob hfr
    rcases holds' id o hg with ⟨rfl, rfl⟩ | ⟨hne, hg⟩
    · simp only [own, View.addObj, if_true, Option.some.injEq] at hob
      subst hob
      exact i.fnew off
    · rw [hown id o hne] at hob
      refine i.nofix id o b off hg hob ?_
      cases o with
      | tip s => exact hfr
      | cells l => trivial
      | map es => trivial
      | ment es mj ms => trivial
      | mapN es nb nc => trivial
      | iter im isn ise il => trivial
      | loop en kk ps as bo st => trivial
  · intro id id' o o' b hg hg' hob hob'
    rcases holds' id o hg with ⟨rfl, rfl⟩ | ⟨hne, hga⟩ <;> rcases holds' id' o' hg' with ⟨rfl, rfl⟩ | ⟨hne', hga'⟩
    · rfl
    · simp only [own, View.addObj, if_true, Option.some.injEq] at hob
      subst hob
      rw [hown id' o' hne'] at hob'
      exact absurd (i.own_lt ⟨id', o', hga', hob'⟩) (Nat.lt_irrefl _)
    · simp only [own, View.addObj, if_true, Option.some.injEq] at hob'
      subst hob'
      rw [hown id o hne] at hob
      exact absurd (i.own_lt ⟨id, o, hga, hob⟩) (Nat.lt_irrefl _)
    · rw [hown id o hne] at hob
      rw [hown id' o' hne'] at hob'
      exact i.inj id id' o o' b hga hga' hob hob'
  · intro b hb
    obtain ⟨id, o, hg, hob⟩ := hb
    rcases holds' id o hg with ⟨rfl, rfl⟩ | ⟨hne, hg⟩
    · simp only [own, View.addObj, if_true, Option.some.injEq] at hob
      exact .inr (by omega)
    · rw [hown id o hne] at hob
      exact .inl ⟨id, o, hg, hob⟩
  · intro id hid
    have := hf id (by omega)
    simp only [View.addObj]
    rw [if_neg (by omega)]
    exact this

/-- One cell of an object written. -/
theorem Inv.set (i : Inv F V h w) {id : Nat} {l : List AV} (hg : get h id = some (.cells l)) {b : Nat} (hb : V.obj id = some b) {j : Nat} (hj : j < l.length) {c : AV} {x : Value} (hx : rep F V c x) (ho : x.oneCell' = true) :
    (store ⟨b, j, none⟩ x).run P w = .ok () (w.setCell ⟨b, j, none⟩ x) ∧ Inv F V (upd h id (.cells (l.set j c))) (w.setCell ⟨b, j, none⟩ x) ∧ Step F V h w F V (upd h id (.cells (l.set j c))) (w.setCell ⟨b, j, none⟩ x) := by
  obtain ⟨b', vs, e, hv, hh, hl, h1⟩ := i.objs id _ hg
  rw [hb] at hv; cases hv
  have hlen : j < vs.size := by have := hl.length; simp at this; omega
  have hcell : w.cell? ⟨b, j, none⟩ = some vs[j] := by simp [World.cell?, hh, hlen]
  have hfz : w.frozen? ⟨b, j, none⟩ = false := by simp [World.frozen?, hh]
  have hnew : (w.setCell ⟨b, j, none⟩ x).heap[b]? = some (.cells (vs.setIfInBounds j x) e (0, 0)) := by
    simp [World.setCell, Array.getElem?_modify, hh]
  have hold : ∀ b', b' ≠ b → (w.setCell ⟨b, j, none⟩ x).heap[b']? = w.heap[b']? := by
    intro b' hne
    simp [World.setCell, Array.getElem?_modify, Ne.symm hne]
  have hget : ∀ id' o, get (upd h id (.cells (l.set j c))) id' = some o → (id' = id ∧ o = .cells (l.set j c)) ∨ (id' ≠ id ∧ get h id' = some o) := by
    intro id' o hg'
    rw [get_upd] at hg'
    split at hg'
    · rw [hg] at hg'; simp at hg'; exact .inl ⟨by assumption, hg'.symm⟩
    · exact .inr ⟨by assumption, hg'⟩
  have hob : ∀ (id' : Nat) o, id' ≠ id → get h id' = some o → ∀ b', own V id' o = some b' → b' ≠ b := by
    intro id' o hne hg' b' hb' e'
    subst e'
    exact hne (i.inj id' id o _ b' hg' hg hb' hb)
  refine ⟨?_, ⟨?_, ?_, ?_, ?_⟩, ⟨.refl F, .refl V, ?_, fun _ _ _ k => .inl k, by simp, ?_, rfl, rfl, rfl, Nat.le_refl _⟩⟩
  · rw [run_store P w _ x .plain ho, hcell]
    simp [hfz]
  · intro b' o y hy
    have hne : b' ≠ b := by
      intro e'; subst e'
      rw [i.nofix id _ b' o hg hb trivial] at hy; cases hy
    have := i.fixed b' o y hy
    simp only [World.cell?] at this ⊢
    rw [hold b' hne]; exact this
  · intro id' o hg'
    rcases hget id' o hg' with ⟨rfl, rfl⟩ | ⟨hne, hg'⟩
    · refine ⟨b, vs.setIfInBounds j x, e, hb, hnew, ?_, ?_⟩
      · have := hl.set j hx
        rw [List.length_set, Array.toList_setIfInBounds, List.take_set]
        exact this
      · intro y hy
        rw [List.length_set, Array.toList_setIfInBounds, List.take_set] at hy
        rcases List.mem_or_eq_of_mem_set hy with hy | rfl
        · exact h1 y hy
        · exact ho
    · have hr := i.objs id' o hg'
      cases o with
      | cells l' =>
        obtain ⟨b2, vs2, e2, hv2, hh2, hr2⟩ := hr
        exact ⟨b2, vs2, e2, hv2, by rw [hold b2 (hob id' _ hne hg' b2 hv2)]; exact hh2, hr2⟩
      | tip s =>
        obtain ⟨y, hy, hs, hbl⟩ := hr
        exact ⟨y, hy, hs, fun b2 hb2 => by
          rw [hold b2 (hob id' _ hne hg' b2 (by simp [own, hy, hb2]))]; exact hbl b2 hb2⟩
      | map es =>
        obtain ⟨b2, xs, cl, hv2, hh2, hr2⟩ := hr
        exact ⟨b2, xs, cl, hv2, by rw [hold b2 (hob id' _ hne hg' b2 hv2)]; exact hh2, hr2⟩
      | ment es mj ms =>
        obtain ⟨b2, xs, cl, hv2, hh2, hr2⟩ := hr
        exact ⟨b2, xs, cl, hv2, by rw [hold b2 (hob id' _ hne hg' b2 hv2)]; exact hh2, hr2⟩
      | mapN es nb nc =>
        obtain ⟨b2, xs, cl, hv2, hh2, hr2⟩ := hr
        exact ⟨b2, xs, cl, hv2, by rw [hold b2 (hob id' _ hne hg' b2 hv2)]; exact hh2, hr2⟩
      | iter im isn ise il =>
        obtain ⟨b2, xs, cl, hv2, hh2, hr2⟩ := hr
        exact ⟨b2, xs, cl, hv2, by rw [hold b2 (hob id' _ hne hg' b2 hv2)]; exact hh2, hr2⟩
      | loop en kk ps as bo st => exact hr.keep fun b2 hb2 => hold b2 (hob id' _ hne hg' b2 hb2)
  · intro id' o b' off hg' hob' hfr
    rcases hget id' o hg' with ⟨rfl, rfl⟩ | ⟨hne, hg'⟩
    · exact i.nofix id' _ b' off hg hob' trivial
    · exact i.nofix id' o b' off hg' hob' hfr
  · intro id1 id2 o1 o2 b' hg1 hg2 hb1 hb2
    rcases hget id1 o1 hg1 with ⟨rfl, rfl⟩ | ⟨hne1, hga1⟩ <;> rcases hget id2 o2 hg2 with ⟨rfl, rfl⟩ | ⟨hne2, hga2⟩
    · rfl
    · exact i.inj _ _ _ _ b' hg hga2 hb1 hb2
    · exact i.inj _ _ _ _ b' hga1 hg hb1 hb2
    · exact i.inj _ _ _ _ b' hga1 hga2 hb1 hb2
  · rintro b' ⟨id', o, hg', hb'⟩
    rcases hget id' o hg' with ⟨rfl, rfl⟩ | ⟨hne, hg'⟩
    · exact .inl ⟨id', _, hg, hb'⟩
    · exact .inl ⟨id', o, hg', hb'⟩
  · intro b' _ hn
    exact hold b' fun e' => hn (by subst e'; exact ⟨id, _, hg, hb⟩)

theorem upd_upd (h : Heap) (id : Nat) (o o' : AObj) : upd (upd h id o) id o' = upd h id o' := by
  induction h with
  | nil => rfl
  | cons p r ih =>
    obtain ⟨i, x⟩ := p
    cases e : Nat.beq i id <;> simp [upd, e, ih]

theorem upd_same {h : Heap} {id : Nat} {o : AObj} (hg : get h id = some o) : upd h id o = h := by
  induction h with
  | nil => rfl
  | cons p r ih =>
    obtain ⟨i, x⟩ := p
    cases e : Nat.beq i id with
    | true => simp [get, e] at hg; subst hg; simp [upd, e]
    | false => simp [get, e] at hg; simp [upd, e, ih hg]

theorem setAt_nil (l : List AV) (n : Nat) : setAt l n [] = l := by cases l <;> cases n <;> rfl

theorem setAt_cons : ∀ (l : List AV) (n : Nat) (c : AV) (cs : List AV), setAt l n (c :: cs) = setAt (l.set n c) (n + 1) cs
  | [], n, c, cs => by cases cs <;> simp [setAt]
  | x :: l, 0, c, cs => by
    cases cs with
    | nil => simp [setAt, setAt_nil]
    | cons d cs => simp [setAt]
  | x :: l, n + 1, c, cs => by
    have := setAt_cons l n c cs
    cases cs with
    | nil => simp [setAt, this, setAt_nil]
    | cons d cs => simp [setAt, this]

/-- A row of cells of an object written, one by one. -/
theorem Inv.sets {id : Nat} {b : Nat} (hb : V.obj id = some b) : ∀ {cs : List AV} {xs : List Value} {l : List AV} {off k : Nat} {h : Heap} {w : World}, Inv F V h w → get h id = some (.cells l) → repL F V cs xs → (∀ x ∈ xs, x.oneCell' = true) → off + k + cs.length ≤ l.length →
    ∃ w', (storeCells ⟨b, off, none⟩ xs k).run P w = .ok () w' ∧ Inv F V (upd h id (.cells (setAt l (off + k) cs))) w' ∧ Step F V h w F V (upd h id (.cells (setAt l (off + k) cs))) w'
  | [], xs, l, off, k, h, w, i, hg, hr, _, _ => by
    simp only [repL] at hr
    subst hr
    refine ⟨w, by simp [storeCells], ?_, ?_⟩
    · rw [setAt_nil, upd_same hg]; exact i
    · rw [setAt_nil, upd_same hg]; exact .refl ..
  | c :: cs, xs, l, off, k, h, w, i, hg, hr, ho, hle => by
    simp only [repL] at hr
    obtain ⟨x, r, rfl, hx, hr⟩ := hr
    simp only [List.length_cons] at hle
    obtain ⟨s1, s2, s3⟩ := Inv.set (P := P) i hg hb (j := off + k) (by omega) hx (ho x List.mem_cons_self)
    have hg2 : get (upd h id (.cells (l.set (off + k) c))) id = some (.cells (l.set (off + k) c)) := by rw [get_upd]; simp [hg]
    obtain ⟨w', t1, t2, t3⟩ := Inv.sets hb (off := off) (k := k + 1) s2 hg2 hr (fun y hy => ho y (List.mem_cons_of_mem _ hy)) (by simp; omega)
    refine ⟨w', ?_, ?_, ?_⟩
    · simp only [storeCells, Sem.run_bind, Addr.add_lit, s1, Result.andThen_ok]
      exact t1
    · rw [setAt_cons, ← Nat.add_assoc] at *
      rw [upd_upd] at t2
      exact t2
    · rw [setAt_cons]
      rw [upd_upd] at t3
      exact s3.trans t3

end
end Go.Sym

namespace Go.Sym

section
variable {P : Program} {F : Fix} {V : View} {h : Heap} {w : World}

theorem storeCells_run {b e : TypeId} {z : Nat × Nat} : ∀ {xs : List Value} {off k : Nat} {vs : Array Value} {w : World}, w.heap[b]? = some (.cells vs e z) → (∀ x ∈ xs, x.oneCell' = true) → off + k + xs.length ≤ vs.size →
    (∀ o, off + k ≤ o → o < vs.size → ¬ (z.1 ≤ o ∧ o < z.2)) →
    ∃ w' vs', (storeCells ⟨b, off, none⟩ xs k).run P w = .ok () w' ∧ w'.heap[b]? = some (.cells vs' e z) ∧ vs'.size = vs.size ∧
      (∀ j, vs'[j]? = if off + k ≤ j ∧ j < off + k + xs.length then xs[j - (off + k)]? else vs[j]?) ∧ (∀ b', b' ≠ b → w'.heap[b']? = w.heap[b']?) ∧ w'.heap.size = w.heap.size ∧ w'.os = w.os ∧ w'.tape = w.tape ∧ w'.output = w.output ∧ w.drawn ≤ w'.drawn
  | [], off, k, vs, w, hh, _, _, _ => ⟨w, vs, by simp [storeCells], hh, rfl, fun j => by simp; intro h1 h2; omega, fun _ _ => rfl, rfl, rfl, rfl, rfl, Nat.le_refl _⟩
  | x :: xs, off, k, vs, w, hh, ho, hle, hz => by
    simp only [List.length_cons] at hle
    have hlt : off + k < vs.size := by omega
    have hcell : w.cell? ⟨b, off + k, none⟩ = some vs[off + k] := by simp [World.cell?, hh, hlt]
    have hfz : w.frozen? ⟨b, off + k, none⟩ = false := by
      have := hz (off + k) (Nat.le_refl _) hlt
      simp only [World.frozen?, hh]
      simpa using this
    have hnew : (w.setCell ⟨b, off + k, none⟩ x).heap[b]? = some (.cells (vs.setIfInBounds (off + k) x) e z) := by
      simp [World.setCell, Array.getElem?_modify, hh]
    have hold : ∀ b', b' ≠ b → (w.setCell ⟨b, off + k, none⟩ x).heap[b']? = w.heap[b']? := by
      intro b' hne
      simp [World.setCell, Array.getElem?_modify, Ne.symm hne]
    obtain ⟨w', vs', t1, t2, t3, t4, t5, t6, t7, t8, t9⟩ := storeCells_run (xs := xs) (off := off) (k := k + 1) hnew (fun y hy => ho y (List.mem_cons_of_mem _ hy)) (by simp; omega)
      (fun o h1 h2 => hz o (by omega) (by simpa using h2))
    refine ⟨w', vs', ?_, t2, by simpa using t3, ?_, fun b' hne => (t5 b' hne).trans (hold b' hne), by rw [t6]; simp, t7, t8, t9⟩
    · simp only [storeCells, Sem.run_bind, Addr.add_lit]
      rw [run_store P w _ x .plain (ho x List.mem_cons_self), hcell]
      simp only [hfz, Bool.false_eq_true, if_false, Result.andThen_ok]
      exact t1
    · intro j
      rw [t4 j]
      simp only [List.length_cons]
      by_cases e1 : j = off + k
      · subst e1
        rw [if_neg (by omega), if_pos (by omega)]
        simp [hlt]
      · by_cases e2 : off + (k + 1) ≤ j ∧ j < off + (k + 1) + xs.length
        · rw [if_pos e2, if_pos (by omega), show j - (off + k) = (j - (off + (k + 1))) + 1 by omega]
          simp
        · rw [if_neg e2, if_neg (by omega)]
          rw [Array.getElem?_setIfInBounds_ne (Ne.symm e1)]

/-- A row of new fixed cells behind a token's place. -/
def addAt (F : Fix) (b o : Nat) (xs : List Value) : Fix := fun b' j => if b' = b ∧ o ≤ j ∧ j < o + xs.length then xs[j - o]? else F b' j

theorem own_setTok {n : Nat} {x : Tok} {id : Nat} {o : AObj} (hne : id ≠ n ∨ ∀ s, o ≠ .tip s) : own (V.setTok n x) id o = own V id o := by
  cases o with
  | cells l => rfl
  | map es => rfl
  | ment es mj ms => rfl
  | mapN es nb nc => rfl
  | iter im isn ise il => rfl
  | loop en kk ps as bo st => rfl
  | tip s =>
    rcases hne with h | h
    · simp [own, View.setTok, h]
    · exact absurd rfl (h s)

/-- Cells put behind a slice that a token ends, in its own row. -/
theorem Inv.tokStore (i : Inv F V h w) {t s : Nat} (hg : get h t = some (.tip s)) {x0 : Tok} (hx : V.tok t = some x0) {b : Nat} (hb : x0.blk = some b) {xs : List Value} (ho : ∀ x ∈ xs, x.oneCell' = true) (hle : x0.fr + xs.length ≤ x0.lim) {h' : Heap} {st : Nat} (hlt : s < st)
    (hget : ∀ id' o, get h' id' = some o → (id' = t ∧ o = .tip st) ∨ (id' ≠ t ∧ get h id' = some o)) :
    ∃ w', (storeCells ⟨b, x0.fr, none⟩ xs).run P w = .ok () w' ∧
      Inv (addAt F b x0.fr xs) (V.setTok t { x0 with fr := x0.fr + xs.length, st := st }) h' w' ∧
      Step F V h w (addAt F b x0.fr xs) (V.setTok t { x0 with fr := x0.fr + xs.length, st := st }) h' w' := by
  obtain ⟨x, hx', hst, hbl⟩ := i.objs t _ hg
  rw [hx] at hx'; cases hx'
  obtain ⟨vs, e, z, hh, hz, hlim⟩ := hbl b hb
  obtain ⟨w', vs', t1, t2, t3, t4, t5, t6, t7, t8, t9⟩ := storeCells_run (P := P) (xs := xs) (off := x0.fr) (k := 0) hh ho (by omega) (fun o h1 h2 => hz o h1 h2)
  have hnone : ∀ o, x0.fr ≤ o → F b o = none := fun o h1 => i.nofix t _ b o hg (by simp [own, hx, hb]) ⟨x0, hx, h1⟩
  have hF : F.le (addAt F b x0.fr xs) := ⟨fun b' o y hy => by
    simp only [addAt]
    rw [if_neg]
    · exact hy
    · rintro ⟨rfl, h1, h2⟩
      rw [hnone o h1] at hy; cases hy⟩
  have hV : V.le (V.setTok t { x0 with fr := x0.fr + xs.length, st := st }) := View.le_setTok fun y hy => by rw [hx] at hy; cases hy; simp only; omega
  have hown : own V t (.tip s) = some b := by simp [own, hx, hb]
  have hown' : own (V.setTok t { x0 with fr := x0.fr + xs.length, st := st }) t (.tip st) = some b := by simp [own, View.setTok, hb]
  have hne_b : ∀ (id' : Nat) o, id' ≠ t → get h id' = some o → ∀ b', own V id' o = some b' → b' ≠ b := by
    intro id' o hne hg' b' hb' e'
    subst e'
    exact hne (i.inj id' t o _ b' hg' hg hb' hown)
  refine ⟨w', t1, ⟨?_, ?_, ?_, ?_⟩, ⟨hF, hV, ?_, ?_, by omega, ?_, t7, t8, t9.1, t9.2⟩⟩
  · intro b' o y hy
    simp only [addAt] at hy
    split at hy
    · rename_i hc
      obtain ⟨rfl, h1, h2⟩ := hc
      simp only [World.cell?, t2]
      have := t4 o
      rw [if_pos (by omega)] at this
      simp only [Nat.add_zero] at this
      simpa [this] using hy
    · rename_i hc
      have := i.fixed b' o y hy
      by_cases hbb : b' = b
      · subst hbb
        simp only [World.cell?, hh] at this
        simp only [World.cell?, t2]
        have h4 := t4 o
        rw [if_neg (by intro hcc; exact hc ⟨rfl, by omega, by omega⟩)] at h4
        simpa [h4] using this
      · simp only [World.cell?] at this ⊢
        rw [t5 b' hbb]; exact this
  · intro id' o hg'
    rcases hget id' o hg' with ⟨rfl, rfl⟩ | ⟨hne, hga⟩
    · refine ⟨{ x0 with fr := x0.fr + xs.length, st := st }, by simp [View.setTok], rfl, ?_⟩
      intro b' hb'
      simp only at hb'
      rw [hb] at hb'; cases hb'
      exact ⟨vs', e, z, t2, fun o h1 h2 => hz o (by simp only at h1; omega) (by omega), by simp only; omega⟩
    · have hr := i.objs id' o hga
      cases o with
      | cells l' =>
        obtain ⟨b2, vs2, e2, hv2, hh2, hl2, ho2⟩ := hr
        exact ⟨b2, vs2, e2, hv2, by rw [t5 b2 (hne_b id' _ hne hga b2 hv2)]; exact hh2, hl2.mono hF hV, ho2⟩
      | tip s' =>
        obtain ⟨y, hy, hs, hbl⟩ := hr
        exact ⟨y, by simp [View.setTok, hne, hy], hs, fun b2 hb2 => by
          rw [t5 b2 (hne_b id' _ hne hga b2 (by simp [own, hy, hb2]))]; exact hbl b2 hb2⟩
      | map es =>
        obtain ⟨b2, xs', cl, hv2, hh2, h1, h2, hr2⟩ := hr
        exact ⟨b2, xs', cl, hv2, by rw [t5 b2 (hne_b id' _ hne hga b2 hv2)]; exact hh2, h1.mono hF hV, h2.mono hF hV, hr2⟩
      | ment es mj ms =>
        obtain ⟨b2, xs', cl, hv2, hh2, h1, h2, hr2⟩ := hr
        exact ⟨b2, xs', cl, hv2, by rw [t5 b2 (hne_b id' _ hne hga b2 hv2)]; exact hh2, h1.mono hF hV, h2.mono hF hV, hr2⟩
      | mapN es nb nc =>
        obtain ⟨b2, xs', cl, hv2, hh2, h1, h2, hr2⟩ := hr
        exact ⟨b2, xs', cl, hv2, by rw [t5 b2 (hne_b id' _ hne hga b2 hv2)]; exact hh2, h1.mono hF hV, h2.mono hF hV, hr2⟩
      | iter im isn ise il =>
        obtain ⟨b2, xs', cl, hv2, hh2, h1⟩ := hr
        exact ⟨b2, xs', cl, hv2, by rw [t5 b2 (hne_b id' _ hne hga b2 hv2)]; exact hh2, h1⟩
      | loop en kk ps as bo st' =>
        obtain ⟨b2, r2, hv2, hh2, q1, q2, q3, q4, q5, q6⟩ := hr
        exact ⟨b2, r2, hv2, by rw [t5 b2 (hne_b id' _ hne hga b2 hv2)]; exact hh2, q1, q2, q3, q4, fun t => rep.mono hF hV _ _ (q5 t), q6⟩
  · intro id' o b' off hg' hob' hfr
    simp only [addAt]
    rcases hget id' o hg' with ⟨rfl, rfl⟩ | ⟨hne, hga⟩
    · rw [hown'] at hob'; cases hob'
      obtain ⟨y, hy, hle'⟩ := hfr
      simp only [View.setTok, if_true, Option.some.injEq] at hy
      subst hy
      simp only at hle'
      rw [if_neg (by omega)]
      exact hnone off (by omega)
    · have hob2 : own V id' o = some b' := by rw [← hob']; exact (own_setTok (.inl hne)).symm
      rw [if_neg (fun hc => hne_b id' o hne hga b' hob2 hc.1)]
      refine i.nofix id' o b' off hga hob2 ?_
      cases o with
      | tip s' =>
        obtain ⟨y, hy, hle'⟩ := hfr
        exact ⟨y, by simpa [View.setTok, hne] using hy, hle'⟩
      | cells l => trivial
      | map es => trivial
      | ment es mj ms => trivial
      | mapN es nb nc => trivial
      | iter im isn ise il => trivial
      | loop en kk ps as bo st => trivial
  · intro id1 id2 o1 o2 b' hg1 hg2 hb1 hb2
    rcases hget id1 o1 hg1 with ⟨rfl, rfl⟩ | ⟨hne1, hga1⟩ <;> rcases hget id2 o2 hg2 with ⟨rfl, rfl⟩ | ⟨hne2, hga2⟩
    · rfl
    · rw [hown'] at hb1; cases hb1
      rw [own_setTok (.inl hne2)] at hb2
      exact absurd rfl (hne_b id2 o2 hne2 hga2 _ hb2)
    · rw [hown'] at hb2; cases hb2
      rw [own_setTok (.inl hne1)] at hb1
      exact absurd rfl (hne_b id1 o1 hne1 hga1 _ hb1)
    · rw [own_setTok (.inl hne1)] at hb1
      rw [own_setTok (.inl hne2)] at hb2
      exact i.inj _ _ _ _ b' hga1 hga2 hb1 hb2
  · rintro b' ⟨id', o, hg', hb'⟩
    rcases hget id' o hg' with ⟨rfl, rfl⟩ | ⟨hne, hga⟩
    · rw [hown'] at hb'; cases hb'
      exact .inl ⟨id', _, hg, hown⟩
    · rw [own_setTok (.inl hne)] at hb'
      exact .inl ⟨id', o, hga, hb'⟩
  · intro b' o y hy
    simp only [addAt] at hy
    split at hy
    · rename_i hc
      exact .inr (.inl ⟨t, _, hg, by rw [hc.1]; exact hown⟩)
    · exact .inl hy
  · intro b' _ hn
    exact t5 b' fun e' => hn (by subst e'; exact ⟨t, _, hg, hown⟩)

/-- A token that owns no row. -/
theorem Inv.tokVoid (i : Inv F V h w) {t st : Nat} {h' : Heap} (hnew : ∀ y, V.tok t = some y → y.st < st)
    (hget : ∀ id' o, get h' id' = some o → (id' = t ∧ o = .tip st) ∨ (id' ≠ t ∧ get h id' = some o)) :
    Inv F (V.setTok t ⟨none, 0, st, 0⟩) h' w ∧ Step F V h w F (V.setTok t ⟨none, 0, st, 0⟩) h' w := by
  have hV : V.le (V.setTok t ⟨none, 0, st, 0⟩) := View.le_setTok fun y hy => hnew y hy
  have hown' : own (V.setTok t ⟨none, 0, st, 0⟩) t (.tip st) = none := by simp [own, View.setTok]
  refine ⟨⟨i.fixed, ?_, ?_, ?_⟩, ⟨.refl F, hV, ?_, fun _ _ _ k => .inl k, Nat.le_refl _, fun _ _ _ => rfl, rfl, rfl, rfl, Nat.le_refl _⟩⟩
  · intro id' o hg'
    rcases hget id' o hg' with ⟨rfl, rfl⟩ | ⟨hne, hga⟩
    · exact ⟨⟨none, 0, st, 0⟩, by simp [View.setTok], rfl, fun b hb => by cases hb⟩
    · exact (i.objs id' o hga).view hV (fun s' _ => by simp [View.setTok, hne])
  · intro id' o b' off hg' hob' hfr
    rcases hget id' o hg' with ⟨rfl, rfl⟩ | ⟨hne, hga⟩
    · rw [hown'] at hob'; cases hob'
    · rw [own_setTok (.inl hne)] at hob'
      refine i.nofix id' o b' off hga hob' ?_
      cases o with
      | tip s' =>
        obtain ⟨y, hy, hle'⟩ := hfr
        exact ⟨y, by simpa [View.setTok, hne] using hy, hle'⟩
      | cells l => trivial
      | map es => trivial
      | ment es mj ms => trivial
      | mapN es nb nc => trivial
      | iter im isn ise il => trivial
      | loop en kk ps as bo st => trivial
  · intro id1 id2 o1 o2 b' hg1 hg2 hb1 hb2
    rcases hget id1 o1 hg1 with ⟨rfl, rfl⟩ | ⟨hne1, hga1⟩ <;> rcases hget id2 o2 hg2 with ⟨rfl, rfl⟩ | ⟨hne2, hga2⟩
    · rfl
    · rw [hown'] at hb1; cases hb1
    · rw [hown'] at hb2; cases hb2
    · rw [own_setTok (.inl hne1)] at hb1
      rw [own_setTok (.inl hne2)] at hb2
      exact i.inj _ _ _ _ b' hga1 hga2 hb1 hb2
  · rintro b' ⟨id', o, hg', hb'⟩
    rcases hget id' o hg' with ⟨rfl, rfl⟩ | ⟨hne, hga⟩
    · rw [hown'] at hb'; cases hb'
    · rw [own_setTok (.inl hne)] at hb'
      exact .inl ⟨id', o, hga, hb'⟩

/-- A token that owns a new row, the beginning of which is fixed. -/
theorem Inv.tokAlloc (i : Inv F V h w) {t st m : Nat} {h' : Heap} {e : TypeId} {all : Array Value} {w' : World} (hw : w'.heap = (w.alloc (.cells all e)).heap) (hos : w'.os = w.os) (hta : w'.tape = w.tape) (hou : w'.output = w.output) (hdr : w.drawn ≤ w'.drawn)
    (hm : m ≤ all.size) (hnew : ∀ y, V.tok t = some y → y.st < st)
    (hget : ∀ id' o, get h' id' = some o → (id' = t ∧ o = .tip st) ∨ (id' ≠ t ∧ get h id' = some o)) :
    Inv (addAt F w.heap.size 0 (all.toList.take m)) (V.setTok t ⟨some w.heap.size, m, st, all.size⟩) h' w' ∧
      Step F V h w (addAt F w.heap.size 0 (all.toList.take m)) (V.setTok t ⟨some w.heap.size, m, st, all.size⟩) h' w' := by
  have hV : V.le (V.setTok t ⟨some w.heap.size, m, st, all.size⟩) := View.le_setTok fun y hy => hnew y hy
  have hown' : own (V.setTok t ⟨some w.heap.size, m, st, all.size⟩) t (.tip st) = some w.heap.size := by simp [own, View.setTok]
  have hlen : (all.toList.take m).length = m := by simp; omega
  have hF : F.le (addAt F w.heap.size 0 (all.toList.take m)) := ⟨fun b' o y hy => by
    simp only [addAt]
    rw [if_neg]
    · exact hy
    · rintro ⟨rfl, h1, h2⟩
      rw [i.fnew] at hy; cases hy⟩
  have hold : ∀ b, b < w.heap.size → w'.heap[b]? = w.heap[b]? := fun b hb => by rw [hw]; exact heap_old w _ hb
  have hnewb : w'.heap[w.heap.size]? = some (.cells all e) := by rw [hw]; exact heap_new w _
  have hlt : ∀ (id' : Nat) o, get h id' = some o → ∀ b', own V id' o = some b' → b' < w.heap.size := fun id' o hg' b' hb' => i.own_lt ⟨id', o, hg', hb'⟩
  refine ⟨⟨?_, ?_, ?_, ?_⟩, ⟨hF, hV, ?_, ?_, ?_, ?_, hos, hta, hou, hdr⟩⟩
  · intro b' o y hy
    simp only [addAt] at hy
    split at hy
    · rename_i hc
      obtain ⟨rfl, h1, h2⟩ := hc
      simp only [World.cell?, hnewb]
      rw [Nat.sub_zero, List.getElem?_take] at hy
      split at hy
      · simpa using hy
      · cases hy
    · have := i.fixed b' o y hy
      simp only [World.cell?] at this ⊢
      rw [hold b' (i.fixed_lt hy)]; exact this
  · intro id' o hg'
    rcases hget id' o hg' with ⟨rfl, rfl⟩ | ⟨hne, hga⟩
    · exact ⟨_, by simp [View.setTok]; rfl, rfl, fun b hb => by
        simp only [Option.some.injEq] at hb; subst hb
        exact ⟨all, e, (0, 0), hnewb, fun o _ _ => by simp, Nat.le_refl _⟩⟩
    · have hr := i.objs id' o hga
      cases o with
      | cells l' =>
        obtain ⟨b2, vs2, e2, hv2, hh2, hl2, ho2⟩ := hr
        exact ⟨b2, vs2, e2, hv2, by rw [hold b2 (lt_of_get hh2)]; exact hh2, hl2.mono hF hV, ho2⟩
      | tip s' =>
        obtain ⟨y, hy, hs, hbl⟩ := hr
        exact ⟨y, by simp [View.setTok, hne, hy], hs, fun b2 hb2 => by
          obtain ⟨vs2, e2, z2, hh2, hr2⟩ := hbl b2 hb2
          exact ⟨vs2, e2, z2, by rw [hold b2 (lt_of_get hh2)]; exact hh2, hr2⟩⟩
      | map es =>
        obtain ⟨b2, xs', cl, hv2, hh2, h1, h2, hr2⟩ := hr
        exact ⟨b2, xs', cl, hv2, by rw [hold b2 (lt_of_get hh2)]; exact hh2, h1.mono hF hV, h2.mono hF hV, hr2⟩
      | ment es mj ms =>
        obtain ⟨b2, xs', cl, hv2, hh2, h1, h2, hr2⟩ := hr
        exact ⟨b2, xs', cl, hv2, by rw [hold b2 (lt_of_get hh2)]; exact hh2, h1.mono hF hV, h2.mono hF hV, hr2⟩
      | mapN es nb nc =>
        obtain ⟨b2, xs', cl, hv2, hh2, h1, h2, hr2⟩ := hr
        exact ⟨b2, xs', cl, hv2, by rw [hold b2 (lt_of_get hh2)]; exact hh2, h1.mono hF hV, h2.mono hF hV, hr2⟩
      | iter im isn ise il =>
        obtain ⟨b2, xs', cl, hv2, hh2, h1⟩ := hr
        exact ⟨b2, xs', cl, hv2, by rw [hold b2 (lt_of_get hh2)]; exact hh2, h1⟩
      | loop en kk ps as bo st' =>
        obtain ⟨b2, r2, hv2, hh2, q1, q2, q3, q4, q5, q6⟩ := hr
        exact ⟨b2, r2, hv2, by rw [hold b2 (lt_of_get hh2)]; exact hh2, q1, q2, q3, q4, fun t => rep.mono hF hV _ _ (q5 t), q6⟩
  · intro id' o b' off hg' hob' hfr
    simp only [addAt]
    rcases hget id' o hg' with ⟨rfl, rfl⟩ | ⟨hne, hga⟩
    · rw [hown'] at hob'; cases hob'
      obtain ⟨y, hy, hle'⟩ := hfr
      simp only [View.setTok, if_true, Option.some.injEq] at hy
      subst hy
      simp only at hle'
      rw [if_neg (by omega)]
      exact i.fnew off
    · have hob2 : own V id' o = some b' := by rw [← hob']; exact (own_setTok (.inl hne)).symm
      have := hlt id' o hga b' hob2
      rw [if_neg (by omega)]
      refine i.nofix id' o b' off hga hob2 ?_
      cases o with
      | tip s' =>
        obtain ⟨y, hy, hle'⟩ := hfr
        exact ⟨y, by simpa [View.setTok, hne] using hy, hle'⟩
      | cells l => trivial
      | map es => trivial
      | ment es mj ms => trivial
      | mapN es nb nc => trivial
      | iter im isn ise il => trivial
      | loop en kk ps as bo st => trivial
  · intro id1 id2 o1 o2 b' hg1 hg2 hb1 hb2
    rcases hget id1 o1 hg1 with ⟨rfl, rfl⟩ | ⟨hne1, hga1⟩ <;> rcases hget id2 o2 hg2 with ⟨rfl, rfl⟩ | ⟨hne2, hga2⟩
    · rfl
    · rw [hown'] at hb1; cases hb1
      rw [own_setTok (.inl hne2)] at hb2
      exact absurd (hlt id2 o2 hga2 _ hb2) (Nat.lt_irrefl _)
    · rw [hown'] at hb2; cases hb2
      rw [own_setTok (.inl hne1)] at hb1
      exact absurd (hlt id1 o1 hga1 _ hb1) (Nat.lt_irrefl _)
    · rw [own_setTok (.inl hne1)] at hb1
      rw [own_setTok (.inl hne2)] at hb2
      exact i.inj _ _ _ _ b' hga1 hga2 hb1 hb2
  · rintro b' ⟨id', o, hg', hb'⟩
    rcases hget id' o hg' with ⟨rfl, rfl⟩ | ⟨hne, hga⟩
    · rw [hown'] at hb'; cases hb'
      exact .inr (Nat.le_refl _)
    · rw [own_setTok (.inl hne)] at hb'
      exact .inl ⟨id', o, hga, hb'⟩
  · intro b' o y hy
    simp only [addAt] at hy
    split at hy
    · rename_i hc
      exact .inr (.inr (by omega))
    · exact .inl hy
  · rw [hw]; simp
  · intro b' hb _
    exact hold b' hb

end
end Go.Sym

namespace Go.Sym

section
variable {P : Program} {F : Fix} {V : View} {h : Heap} {w : World}

theorem fixCellsAt {w' : World} (hc : ∀ b o x, F b o = some x → w'.cell? ⟨b, o, none⟩ = some x) {b o : Nat} {cs : List Value} (hf : FixedAt F b o cs) : (loadCells ⟨b, o, none⟩ cs.length).run P w' = .ok cs.toArray w' :=
  run_loadCells_list w' ⟨b, o, none⟩ cs fun j v hj => by rw [Addr.add_lit]; exact hc _ _ _ (hf j v hj)

/-- What is appended, as the model reads it: in any world that has the fixed cells. -/
theorem appended_run {e : TypeId} {k : Nat} {x : AV} {xv : Value} {xs : List AV} (ha : appended P e k x = some xs) (r : rep F V x xv) :
    ∃ X : List Value, repL F V xs X ∧ (∀ y ∈ X, elemOk k y) ∧ (∀ w', (Builtin.lenOf xv).run P w' = .ok X.length w') ∧
      (∀ w', (∀ b o x, F b o = some x → w'.cell? ⟨b, o, none⟩ = some x) → (Builtin.firstCells (width k) X.length xv).run P w' = .ok (flat X).toArray w') := by
  unfold appended at ha
  cases x <;> simp only at ha <;> try (cases ha; done)
  case str s =>
    cases hu : P.underlying e with
    | none => simp [hu] at ha
    | some u =>
    cases u <;> simp only [hu] at ha <;> try (cases ha; done)
    rename_i kk
    cases kk <;> simp only at ha <;> try (cases ha; done)
    cases hb : Nat.beq k 0 with
    | false => simp [hb] at ha
    | true =>
    obtain rfl := Nat.eq_of_beq_eq_true hb
    simp only [hb, cond_true, Option.some.injEq] at ha
    subst ha
    simp only [rep] at r
    subst r
    refine ⟨s.map fun c => .int .u8 c.toNat, u8s_rep s, ?_, ?_, ?_⟩
    · intro y hy
      simp only [List.mem_map] at hy
      obtain ⟨c, _, rfl⟩ := hy
      simp [elemOk, Value.oneCell']
    · intro w'; simp [Builtin.lenOf, ByteArray.size]
    · intro w' _
      rw [flat_ints]
      simp only [Builtin.firstCells, Sem.run_pure, List.length_map]
      congr 1
      apply Array.ext'
      simp [ByteArray.extract_mk]
  case nils =>
    simp only [Option.some.injEq] at ha
    subst ha
    simp only [rep] at r
    subst r
    exact ⟨[], by simp [repL], by simp, fun w' => by simp [Builtin.lenOf], fun w' _ => by simp [Builtin.firstCells, flat]⟩
  case sl p k' els =>
    cases hb : Nat.beq k' k with
    | false => simp [hb] at ha
    | true =>
    obtain rfl := Nat.eq_of_beq_eq_true hb
    simp only [hb, cond_true, Option.some.injEq] at ha
    subst ha
    simp only [rep] at r
    rcases r with ⟨b, o, cap, vs, rfl, hl, hek, hf, -⟩ | ⟨rfl, ⟨qa, rfl⟩, -⟩
    · refine ⟨vs, hl, hek, fun w' => by simp [Builtin.lenOf], fun w' hc => ?_⟩
      have := fixCellsAt (P := P) hc hf
      rw [flat_length hek] at this
      simpa [Builtin.firstCells] using this
    · exact ⟨[], by simp [repL], by simp, fun w' => by simp [Builtin.lenOf], fun w' _ => by cases qa <;> simp [Builtin.firstCells, flat, loadCells] <;> rfl⟩

theorem flat_ones {k : Nat} {X : List Value} (he : ∀ y ∈ X, elemOk k y) : ∀ c ∈ flat X, c.oneCell' = true := by
  intro c hc
  simp only [flat, List.mem_flatMap] at hc
  obtain ⟨y, hy, hc⟩ := hc
  exact (he y hy).ones c hc

theorem fixedAt_append {b o : Nat} {xs ys : List Value} (h1 : FixedAt F b o xs) (h2 : FixedAt F b (o + xs.length) ys) : FixedAt F b o (xs ++ ys) := by
  intro j y hy
  by_cases hj : j < xs.length
  · rw [List.getElem?_append_left hj] at hy
    exact h1 j y hy
  · rw [List.getElem?_append_right (by omega)] at hy
    have := h2 _ y hy
    rwa [Nat.add_assoc, Nat.add_sub_cancel' (by omega)] at this

theorem append_fits {st xt ty e : TypeId} {sz n m cap : Nat} {base : Option Addr} {xv : Value} {w' : World} {new : Array Value} (hu : P.underlying st = some (.slice e)) (hxt : (∃ e2, P.underlying xt = some (.slice e2)) ∨ P.underlying xt = some .string)
    (hsz : sizeT P e = some sz) (hXl : (Builtin.lenOf xv).run P w = .ok m w) (hXr : (Builtin.firstCells sz m xv).run P w = .ok new w) (hroom : n + m ≤ cap)
    (hst : (match base with | some a => (storeCells (a.add (n * sz)) new.toList).run P w | none => .ok () w) = .ok () w') :
    (Builtin.append_ #[st, xt] ty #[.slice base n cap, xv]).run P w = .ok (.slice base (n + m) cap) w' := by
  have fin : (match base with | some a => (storeCells (a.add (n * sz)) new.toList) | none => pure ()).run P w = .ok () w' := by
    cases base <;> simpa using hst
  rcases hxt with ⟨e2, hxu⟩ | hxu
  all_goals
    simp only [Builtin.append_, List.getElem?_toArray, List.getElem?_cons_zero, List.getElem?_cons_succ, Sem.run_bind, run_underlying hu, Result.andThen_ok, run_sizeT hsz, run_underlying hxu, Sem.run_pure, Bool.false_eq_true, if_false, Bool.not_false, if_true, hXl, hXr, if_pos hroom]
    cases base with
    | none => simp only [Result.ok.injEq, true_and] at hst; subst hst; rfl
    | some a => simp only at hst; simp only [hst, Result.andThen_ok, Sem.run_bind, Sem.run_pure]

theorem append_grows {st xt ty e : TypeId} {sz by_ n m cap : Nat} {base : Option Addr} {xv z : Value} {ti : TypeInfo} {old new : Array Value} (hu : P.underlying st = some (.slice e)) (hxt : (∃ e2, P.underlying xt = some (.slice e2)) ∨ P.underlying xt = some .string)
    (hti : P.info? e = some ti) (hsz : ti.size = sz) (hby : ti.bytes = by_) (hz : ti.zero = some z) (hXl : (Builtin.lenOf xv).run P w = .ok m w)
    (hold : (Builtin.firstCells sz n (.slice base n cap)).run P w.drew = .ok old w.drew) (hXr : (Builtin.firstCells sz m xv).run P w.drew = .ok new w.drew) (hroom : ¬ n + m ≤ cap)
    (h1 : 0 < by_) (hb : (n + m) * by_ ≤ 140737488355328) :
    (Builtin.append_ #[st, xt] ty #[.slice base n cap, xv]).run P w = .ok (.slice (some ⟨w.heap.size, 0, none⟩) (n + m) (grownCap w (n + m) cap e))
      (w.drew.alloc (.cells (old ++ new ++ Builtin.zeroCells z.cells (grownCap w (n + m) cap e - (n + m))) e)) := by
  have hbd1 : n + m ≤ 140737488355328 := Nat.le_trans (Nat.le_mul_of_pos_right _ h1) hb
  have hng := growslice_fits (need := n + m) (old := cap) (bytes := by_) (by omega) hb
  have c2 : ¬ (Builtin.nextslicecap (n + m) cap * by_ > 2 ^ 48) := by omega
  have hq : (Question.appendCap (n + m) cap e).forced = false := rfl
  rcases hxt with ⟨e2, hxu⟩ | hxu
  all_goals
    simp [Builtin.append_, run_underlying hu, run_underlying hxu, sizeOf, typeInfo, zeroValue, hti, hsz, hby, hz, hXl, hroom, c2, hq, hold, hXr, newRow]
    rw [if_neg (by omega)]
    rfl

theorem append_sound {st xt ty e : TypeId} {k by_ : Nat} {p : Perm} {x : AV} {sv xv : Value} {els xs : List AV} {t' st' : Nat} {h' : Heap} (i : Inv F V h w)
    (hu : P.underlying st = some (.slice e)) (hxt : (∃ e2, P.underlying xt = some (.slice e2)) ∨ P.underlying xt = some .string) (hk : kindT P e = some k) (hby : bytesT P e = some by_) (hby0 : 0 < by_) (hz : elemV k (zeroT P e) = true)
    (ha : appended P e k x = some xs) (rs : rep F V (.sl p k els) sv) (rx : rep F V x xv) (hb : ((els ++ xs).length : Int) * by_ ≤ 140737488355328)
    (hp : p = .full ∨ ∃ s, p = .tok t' s ∧ s < st' ∧ get h t' = some (.tip s)) (hnew : ∀ y, V.tok t' = some y → y.st < st')
    (hget : ∀ id' o, get h' id' = some o → (id' = t' ∧ o = .tip st') ∨ (id' ≠ t' ∧ get h id' = some o)) :
    ∃ val F' V' w', (Builtin.append_ #[st, xt] ty #[sv, xv]).run P w = .ok val w' ∧ rep F' V' (.sl (.tok t' st') k (els ++ xs)) val ∧ Inv F' V' h' w' ∧ Step F V h w F' V' h' w' ∧
      (∃ y, V' = V.setTok t' y) := by
  obtain ⟨X, hX, hXe, hXl, hXr⟩ := appended_run ha rx
  obtain ⟨hsz, -⟩ := kindT_size hk
  have hzne : zeroT P e ≠ .top := by intro h0; rw [h0] at hz; cases k <;> simp [elemV, scalar] at hz
  obtain ⟨z, hzr, hzrep, ti, hti, hzz⟩ := zeroT_run (P := P) (F := F) (V := V) rfl hzne
  have hzek := elemV_ok hz hzrep
  have hzs := hzek.cells
  have hti2 : ti.size = width k := by unfold sizeT at hsz; simp [hti] at hsz; exact hsz
  have hti3 : ti.bytes = by_ := by unfold bytesT at hby; simp [hti] at hby; exact hby
  have hw : 0 < width k := by unfold width; split <;> omega
  -- the slice's own parts
  have main : ∀ (base : Option Addr) (cap : Nat) (vs : List Value), sv = .slice base vs.length cap → repL F V els vs → (∀ y ∈ vs, elemOk k y) → vs.length ≤ cap →
      (∀ w', (∀ b o x, F b o = some x → w'.cell? ⟨b, o, none⟩ = some x) → (Builtin.firstCells (width k) vs.length sv).run P w' = .ok (flat vs).toArray w') →
      (vs.length + X.length ≤ cap → ∃ val F' V' w', (match base with | some a => (storeCells (a.add (vs.length * width k)) (flat X)).run P w | none => .ok () w) = .ok () w' ∧ val = .slice base (vs.length + X.length) cap ∧ rep F' V' (.sl (.tok t' st') k (els ++ xs)) val ∧ Inv F' V' h' w' ∧ Step F V h w F' V' h' w' ∧ (∃ y, V' = V.setTok t' y)) →
      ∃ val F' V' w', (Builtin.append_ #[st, xt] ty #[sv, xv]).run P w = .ok val w' ∧ rep F' V' (.sl (.tok t' st') k (els ++ xs)) val ∧ Inv F' V' h' w' ∧ Step F V h w F' V' h' w' ∧ (∃ y, V' = V.setTok t' y) := by
    intro base cap vs hsv hl hek hle hold hfit
    subst hsv
    have hxs := hX.length
    have hls := hl.length
    by_cases hroom : vs.length + X.length ≤ cap
    · obtain ⟨val, F', V', w', hst, rfl, hr⟩ := hfit hroom
      exact ⟨_, F', V', w', append_fits hu hxt hsz (hXl w) (hXr w i.fixed) hroom hst, hr⟩
    · have hneed : vs.length + X.length = (els ++ xs).length := by simp [hls, hxs]
      have hbd : (vs.length + X.length) * by_ ≤ 140737488355328 := by
        rw [hneed]
        have h2 : (((els ++ xs).length * by_ : Nat) : Int) ≤ 140737488355328 := by rw [Int.natCast_mul]; exact hb
        omega
      obtain ⟨all, hall⟩ : ∃ all : Array Value, all = (flat vs).toArray ++ (flat X).toArray ++ Builtin.zeroCells z.cells (grownCap w (vs.length + X.length) cap e - (vs.length + X.length)) := ⟨_, rfl⟩
      have hge := grownCap_ge w (vs.length + X.length) cap e
      have hsize : all.size = grownCap w (vs.length + X.length) cap e * width k := by
        rw [hall]
        simp only [Array.size_append, List.size_toArray, flat_length hek, flat_length hXe, size_zeroCells, hzs]
        rw [← Nat.add_mul, ← Nat.add_mul]
        congr 1; omega
      have hpre : all.toList.take ((vs.length + X.length) * width k) = flat (vs ++ X) := by
        rw [hall, flat_append]
        simp only [Array.toList_append]
        rw [List.take_left' (by rw [List.length_append, flat_length hek, flat_length hXe, Nat.add_mul])]
      obtain ⟨i2, s2⟩ := Inv.tokAlloc (e := e) (all := all) (w' := w.drew.alloc (.cells all e)) (m := (vs.length + X.length) * width k) i rfl rfl rfl rfl (Nat.le_succ _) (by rw [hsize]; exact Nat.mul_le_mul_right _ hge) hnew hget
      refine ⟨.slice (some ⟨w.heap.size, 0, none⟩) (vs.length + X.length) (grownCap w (vs.length + X.length) cap e), _, _, w.drew.alloc (.cells all e), ?_, ?_, i2, s2, _, rfl⟩
      · have hfd : ∀ b o x, F b o = some x → w.drew.cell? ⟨b, o, none⟩ = some x := i.fixed
        have := append_grows (ty := ty) hu hxt hti hti2 hti3 hzz (hXl w) (hold w.drew hfd) (hXr w.drew hfd) hroom hby0 hbd
        rw [← hall] at this
        exact this
      · simp only [rep]
        refine .inl ⟨w.heap.size, 0, grownCap w (vs.length + X.length) cap e, vs ++ X, by simp, (hl.append hX).mono s2.fix s2.view, ?_, ?_, ?_⟩
        · intro y hy
          rcases List.mem_append.1 hy with hy | hy
          · exact hek y hy
          · exact hXe y hy
        · intro j y hy
          simp only [addAt]
          rw [← hpre] at hy
          have hlt : j < (all.toList.take ((vs.length + X.length) * width k)).length := by
            rcases Nat.lt_or_ge j (all.toList.take ((vs.length + X.length) * width k)).length with h' | h'
            · exact h'
            · simp [List.getElem?_eq_none h'] at hy
          rw [if_pos ⟨trivial, by omega, by omega⟩]
          simpa using hy
        · refine ⟨by simpa using hge, ⟨some w.heap.size, (vs.length + X.length) * width k, st', all.size⟩, by simp [View.setTok], Nat.le_refl _, fun _ => .inr ⟨rfl, by simp, by simp [hsize]⟩⟩
  simp only [rep] at rs
  rcases rs with ⟨b, o, cap, vs, rfl, hl, hek, hf, hpm⟩ | ⟨rfl, ⟨qa, rfl⟩, hpn⟩
  · refine main (some ⟨b, o, none⟩) cap vs rfl hl hek hpm.le (fun w' hc => ?_) (fun hroom => ?_)
    · have := fixCellsAt (P := P) hc hf
      rw [flat_length hek] at this
      simpa [Builtin.firstCells] using this
    · have hxs := hX.length
      by_cases hfull : cap = vs.length
      · -- nothing is appended
        have hX0 : X = [] := List.eq_nil_of_length_eq_zero (by omega)
        subst hX0
        have hxs0 : xs = [] := List.eq_nil_of_length_eq_zero (by simpa using hxs)
        subst hxs0
        obtain ⟨i2, s2⟩ := Inv.tokVoid i hnew hget
        refine ⟨_, F, _, w, by simp [flat, storeCells], rfl, ?_, i2, s2, _, rfl⟩
        simp only [rep, List.append_nil, List.length_nil, Nat.add_zero]
        exact .inl ⟨b, o, cap, vs, rfl, hl.mono (.refl F) s2.view, hek, hf, by omega, ⟨none, 0, st', 0⟩, by simp [View.setTok], Nat.le_refl _, fun _ => .inl hfull⟩
      · rcases hp with rfl | ⟨s, rfl, hst, hg⟩
        · exact absurd hpm hfull
        · obtain ⟨hle, x0, hx0, hsx, he⟩ := hpm
          obtain ⟨x1, hx1, hs1, hbl⟩ := i.objs t' _ hg
          rw [hx0] at hx1; cases hx1
          rcases he hs1.symm with he | ⟨e1, e2, e3⟩
          · exact absurd he hfull
          have hfl : (flat X).length = X.length * width k := flat_length hXe
          obtain ⟨w', t1, t2, t3⟩ := Inv.tokStore (P := P) i hg hx0 e1 (xs := flat X) (flat_ones hXe) (by
            rw [hfl, e2, Nat.add_assoc, ← Nat.add_mul]
            have := Nat.mul_le_mul_right (width k) hroom
            omega) hst hget
          refine ⟨_, _, _, w', ?_, rfl, ?_, t2, t3, _, rfl⟩
          · simp only [Addr.add_lit, ← e2]
            exact t1
          · simp only [rep]
            refine .inl ⟨b, o, cap, vs ++ X, by simp, (hl.append hX).mono t3.fix t3.view, ?_, ?_, ?_⟩
            · intro y hy
              rcases List.mem_append.1 hy with hy | hy
              · exact hek y hy
              · exact hXe y hy
            · rw [flat_append]
              refine fixedAt_append (hf.mono t3.fix) ?_
              rw [flat_length hek, ← e2]
              intro j y hy
              simp only [addAt]
              have hlt : j < (flat X).length := by
                rcases Nat.lt_or_ge j (flat X).length with h' | h'
                · exact h'
                · simp [List.getElem?_eq_none h'] at hy
              rw [if_pos ⟨trivial, by omega, by omega⟩, Nat.add_sub_cancel_left]
              exact hy
            · refine ⟨by simpa using hroom, { x0 with fr := x0.fr + (flat X).length, st := st' }, by simp [View.setTok], Nat.le_refl _, fun _ => .inr ⟨e1, ?_, e3⟩⟩
              simp only [List.length_append, hfl, Nat.add_mul]
              omega
  · refine main qa 0 [] rfl (by simp [repL]) (by simp) (Nat.le_refl _) (fun w' _ => by cases qa <;> simp [Builtin.firstCells, flat, loadCells] <;> rfl) (fun hroom => ?_)
    have hxs := hX.length
    have hX0 : X = [] := by simpa using hroom
    subst hX0
    have hxs0 : xs = [] := List.eq_nil_of_length_eq_zero (by simpa using hxs)
    subst hxs0
    obtain ⟨i2, s2⟩ := Inv.tokVoid i hnew hget
    refine ⟨_, F, _, w, by cases qa <;> simp [flat, storeCells], rfl, ?_, i2, s2, _, rfl⟩
    simp only [rep]
    exact .inr ⟨by simp, ⟨qa, rfl⟩, ⟨none, 0, st', 0⟩, by simp [View.setTok], Nat.le_refl _⟩

theorem rep_zero {k : Nat} {els : List AV} {v : Value} (r : rep F V (.sl .zero k els) v) : rep F V (.sl .full k els) v := by
  simpa only [rep, permOk, permNil] using r

theorem flatA_rep {k : Nat} : ∀ {els : List AV} {vs : List Value}, repL F V els vs → (∀ a ∈ els, elemV k a = true) → repL F V (flatA k els) (flat vs) ∧ (flatA k els).length = vs.length * width k := by
  cases k with
  | zero =>
    intro els
    induction els with
    | nil => intro vs hr _; simp only [repL] at hr; subst hr; exact ⟨rfl, by simp [flatA]⟩
    | cons a els ih =>
      intro vs hr he
      simp only [repL] at hr
      obtain ⟨x, r, rfl, ra, rr⟩ := hr
      obtain ⟨h1, h2⟩ := ih rr fun b hb => he b (List.mem_cons_of_mem _ hb)
      have hx : x.oneCell' = true := scalar_one (he a List.mem_cons_self) ra
      have hfl : flat (x :: r) = x :: flat r := by
        unfold flat
        rw [List.flatMap_cons, cells_one hx]; rfl
      rw [hfl]
      refine ⟨⟨x, flat r, rfl, ra, h1⟩, ?_⟩
      show (a :: els).length = _
      have : els.length = r.length * width 0 := h2
      simp only [List.length_cons, this, width, if_true]
      omega
  | succ n =>
    intro els
    induction els with
    | nil => intro vs hr _; simp only [repL] at hr; subst hr; exact ⟨rfl, by simp [flatA]⟩
    | cons a els ih =>
      intro vs hr he
      simp only [repL] at hr
      obtain ⟨x, r, rfl, ra, rr⟩ := hr
      obtain ⟨h1, h2⟩ := ih rr fun b hb => he b (List.mem_cons_of_mem _ hb)
      have hea := he a List.mem_cons_self
      cases a <;> simp only [elemV] at hea <;> try (cases hea; done)
      rename_i l
      have hll := Nat.eq_of_beq_eq_true hea
      simp only [rep] at ra
      obtain ⟨us, rfl, hus, -⟩ := ra
      have hfl : flat (.agg us.toArray :: r) = us ++ flat r := by
        unfold flat
        rw [List.flatMap_cons]; rfl
      have hfa : flatA (n + 1) (.agg l :: els) = l ++ flatA (n + 1) els := rfl
      rw [hfl, hfa]
      refine ⟨hus.append h1, ?_⟩
      rw [List.length_append, h2, List.length_cons, hll]
      have : width (n + 1) = n + 1 := rfl
      rw [this, Nat.add_mul]
      omega

theorem mem_zeroCells {z : Array Value} {n : Nat} (hz : ∀ c ∈ z.toList, c.oneCell' = true) : ∀ c ∈ (Builtin.zeroCells z n).toList, c.oneCell' = true := by
  intro c hc
  simp only [Builtin.zeroCells, Array.toList_map, Array.toList_range, List.mem_map, List.mem_range] at hc
  obtain ⟨i, hi, rfl⟩ := hc
  have h0 : 0 < z.size := by
    rcases Nat.eq_zero_or_pos z.size with e | e
    · rw [e] at hi; simp at hi
    · exact e
  have hlt := Nat.mod_lt i h0
  rw [getElem!_pos z _ hlt]
  exact hz _ (by rw [← Array.getElem_toList]; exact List.getElem_mem _)

/-- What is appended to nothing stands in a block of its own. -/
theorem append_own {st xt ty e : TypeId} {k by_ : Nat} {x : AV} {sv xv : Value} {els xs : List AV} (i : Inv F V h w)
    (hu : P.underlying st = some (.slice e)) (hxt : (∃ e2, P.underlying xt = some (.slice e2)) ∨ P.underlying xt = some .string) (hk : kindT P e = some k) (hby : bytesT P e = some by_) (hby0 : 0 < by_) (hz : elemV k (zeroT P e) = true)
    (ha : appended P e k x = some xs) (rs : rep F V (.sl .full k els) sv) (rx : rep F V x xv) (hb : ((els ++ xs).length : Int) * by_ ≤ 140737488355328) (hne : 0 < xs.length) :
    ∃ (all : Array Value) (n cap : Nat) (us : List Value), (Builtin.append_ #[st, xt] ty #[sv, xv]).run P w = .ok (.slice (some ⟨w.heap.size, 0, none⟩) n cap) (w.drew.alloc (.cells all e)) ∧ n ≤ cap ∧ repL F V (els ++ xs) us ∧ us.length = n ∧ (∀ y ∈ us, elemOk k y) ∧ all.toList.take (n * width k) = flat us ∧ all.size = cap * width k ∧ ∀ y ∈ all.toList, y.oneCell' = true := by
  obtain ⟨X, hX, hXe, hXl, hXr⟩ := appended_run ha rx
  obtain ⟨hsz, -⟩ := kindT_size hk
  have hzne : zeroT P e ≠ .top := by intro h0; rw [h0] at hz; cases k <;> simp [elemV, scalar] at hz
  obtain ⟨z, hzr, hzrep, ti, hti, hzz⟩ := zeroT_run (P := P) (F := F) (V := V) rfl hzne
  have hzek := elemV_ok hz hzrep
  have hzs := hzek.cells
  have hti2 : ti.size = width k := by unfold sizeT at hsz; simp [hti] at hsz; exact hsz
  have hti3 : ti.bytes = by_ := by unfold bytesT at hby; simp [hti] at hby; exact hby
  have hw : 0 < width k := by unfold width; split <;> omega
  have main : ∀ (base : Option Addr) (vs : List Value), sv = .slice base vs.length vs.length → repL F V els vs → (∀ y ∈ vs, elemOk k y) →
      (∀ w', (∀ b o x, F b o = some x → w'.cell? ⟨b, o, none⟩ = some x) → (Builtin.firstCells (width k) vs.length sv).run P w' = .ok (flat vs).toArray w') →
      ∃ (all : Array Value) (n cap : Nat) (us : List Value), (Builtin.append_ #[st, xt] ty #[sv, xv]).run P w = .ok (.slice (some ⟨w.heap.size, 0, none⟩) n cap) (w.drew.alloc (.cells all e)) ∧ n ≤ cap ∧ repL F V (els ++ xs) us ∧ us.length = n ∧ (∀ y ∈ us, elemOk k y) ∧ all.toList.take (n * width k) = flat us ∧ all.size = cap * width k ∧ ∀ y ∈ all.toList, y.oneCell' = true := by
    intro base vs hsv hl hek hold
    subst hsv
    have hxs := hX.length
    have hls := hl.length
    have hneed : vs.length + X.length = (els ++ xs).length := by simp [hls, hxs]
    have hbd : (vs.length + X.length) * by_ ≤ 140737488355328 := by
      rw [hneed]
      have h2 : (((els ++ xs).length * by_ : Nat) : Int) ≤ 140737488355328 := by rw [Int.natCast_mul]; exact hb
      omega
    have hge := grownCap_ge w (vs.length + X.length) vs.length e
    have hfd : ∀ b o x, F b o = some x → w.drew.cell? ⟨b, o, none⟩ = some x := i.fixed
    refine ⟨(flat vs).toArray ++ (flat X).toArray ++ Builtin.zeroCells z.cells (grownCap w (vs.length + X.length) vs.length e - (vs.length + X.length)), vs.length + X.length, _, vs ++ X, append_grows (ty := ty) hu hxt hti hti2 hti3 hzz (hXl w) (hold w.drew hfd) (hXr w.drew hfd) (by omega) hby0 hbd, hge, hl.append hX, by simp, fun y hy => ?_, ?_, ?_, ?_⟩
    · rcases List.mem_append.1 hy with hy | hy
      · exact hek y hy
      · exact hXe y hy
    · rw [flat_append]
      simp only [Array.toList_append]
      rw [List.take_left' (by rw [List.length_append, flat_length hek, flat_length hXe, Nat.add_mul])]
    · simp only [Array.size_append, List.size_toArray, flat_length hek, flat_length hXe, size_zeroCells, hzs]
      rw [← Nat.add_mul, ← Nat.add_mul]
      congr 1; omega
    · intro y hy
      simp only [Array.toList_append] at hy
      rcases List.mem_append.1 hy with hy | hy
      · rcases List.mem_append.1 hy with hy | hy
        · exact flat_ones hek y hy
        · exact flat_ones hXe y hy
      · exact mem_zeroCells hzek.ones y hy
  simp only [rep] at rs
  rcases rs with ⟨b, o, cap, vs, rfl, hl, hek, hf, hpm⟩ | ⟨rfl, ⟨qa, rfl⟩, hpn⟩
  · have hpm : cap = vs.length := hpm
    subst hpm
    refine main (some ⟨b, o, none⟩) vs rfl hl hek (fun w' hc => ?_)
    have := fixCellsAt (P := P) hc hf
    rw [flat_length hek] at this
    simpa [Builtin.firstCells] using this
  · exact main qa [] rfl (by simp [repL]) (by simp) (fun w' _ => by cases qa <;> simp [Builtin.firstCells, flat, loadCells] <;> rfl)

end
end Go.Sym

namespace Go.Sym

section
variable {P : Program} {F : Fix} {V : View} {h : Heap} {w : World}

theorem fieldsEq_val : ∀ {fs : List Field} {n : Nat} {a b : List AV} {zs us : List Value}, fieldsEq P fs n a b = some true → repL F V a zs → repL F V b us → zs = us
  | [], n, a, b, zs, us, he, ha, hb => by
    cases a <;> cases b <;> simp [fieldsEq] at he
    simp only [repL] at ha hb
    rw [ha, hb]
  | f :: fs, n, [], b, _, _, he, _, _ => by simp [fieldsEq] at he
  | f :: fs, n, a0 :: a, [], _, _, he, _, _ => by simp [fieldsEq] at he
  | f :: fs, n, a0 :: a, b0 :: b, zs, us, he, ha, hb => by
    simp only [fieldsEq] at he
    cases hc : (f.name != "_" && Nat.beq f.offset n) with
    | false => simp [hc] at he
    | true =>
    simp only [hc, cond_true] at he
    simp only [repL] at ha hb
    obtain ⟨x, zr, rfl, hxa, hra⟩ := ha
    obtain ⟨y, ur, rfl, hyb, hrb⟩ := hb
    cases h1 : fieldsEq P fs (n + 1) a b with
    | none => rw [h1] at he; simp at he
    | some e1 =>
    rw [h1] at he
    simp only at he
    have fin : x = y → e1 = true → x :: zr = y :: ur := fun e e' => by
      subst e'
      rw [e, fieldsEq_val h1 hra hrb]
    cases hU : P.underlying f.type with
    | none => simp [hU] at he
    | some u =>
    cases u <;> simp only [hU] at he <;> try contradiction
    case int k0 =>
      cases a0 <;> try (simp at he; done)
      cases b0 <;> try (simp at he; done)
      simp only [rep] at hxa hyb
      subst hxa; subst hyb
      rename_i k p k' q
      cases hk : kindEq k k' with
      | false => simp [hk] at he
      | true =>
      obtain rfl := kindEq_eq hk
      simp only [hk, cond_true, Option.some.injEq, Bool.and_eq_true, beq_iff_eq] at he
      exact fin (by rw [he.1]) he.2
    case string =>
      cases a0 <;> try (simp at he; done)
      cases b0 <;> try (simp at he; done)
      simp only [rep] at hxa hyb
      subst hxa; subst hyb
      simp only [Option.some.injEq, Bool.and_eq_true, beq_iff_eq] at he
      exact fin (by rw [he.1]) he.2
    case bool =>
      cases hA : isBool a0 with
      | none => simp [hA] at he
      | some p =>
      cases hB : isBool b0 with
      | none => simp [hA, hB] at he
      | some q =>
      simp only [hA, hB, Option.some.injEq, Bool.and_eq_true, beq_iff_eq] at he
      exact fin (by rw [isBool_rep hA hxa, isBool_rep hB hyb, he.1]) he.2

theorem fields_bits {d : Nat} : ∀ {fs : List Field} {n : Nat} {a : List AV} {e : Bool} {zs : List Value}, fieldsEq P fs n a a = some e → repL F V a zs → ∀ z ∈ zs, Instr.sameBits d z z = true
  | [], n, a, e, zs, he, ha => by
    cases a <;> simp [fieldsEq] at he
    simp only [repL] at ha
    subst ha
    intro z hz; cases hz
  | f :: fs, n, [], e, zs, he, ha => by simp [fieldsEq] at he
  | f :: fs, n, a0 :: a, e, zs, he, ha => by
    simp only [fieldsEq] at he
    cases hc : (f.name != "_" && Nat.beq f.offset n) with
    | false => simp [hc] at he
    | true =>
    simp only [hc, cond_true] at he
    simp only [repL] at ha
    obtain ⟨x, zr, rfl, hxa, hra⟩ := ha
    cases h1 : fieldsEq P fs (n + 1) a a with
    | none => rw [h1] at he; simp at he
    | some e1 =>
    rw [h1] at he
    simp only at he
    intro z hz
    rcases List.mem_cons.1 hz with rfl | hz
    · cases hU : P.underlying f.type with
      | none => simp [hU] at he
      | some u =>
      cases u <;> simp only [hU] at he <;> try contradiction
      case int k0 =>
        cases a0 <;> try (simp at he; done)
        simp only [rep] at hxa
        subst hxa
        cases d <;> simp [Instr.sameBits]
      case string =>
        cases a0 <;> try (simp at he; done)
        simp only [rep] at hxa
        subst hxa
        cases d <;> simp [Instr.sameBits, ba_beq]
      case bool =>
        cases hA : isBool a0 with
        | none => simp [hA] at he
        | some p =>
        rw [isBool_rep hA hxa]
        cases d <;> simp [Instr.sameBits]
    · exact fields_bits h1 hra z hz

theorem eqK_val {t : TypeId} {k a : AV} {kv av : Value} (he : eqK P t k a = some true) (rk : rep F V k kv) (ra : rep F V a av) : av = kv := by
  cases k <;> cases a <;> simp only [eqK] at he <;> try (cases he; done)
  case int.int k x k' y =>
    simp only [rep] at rk ra
    subst rk; subst ra
    cases hU : P.underlying t with
    | none => simp [hU] at he
    | some u =>
    cases u <;> simp only [hU] at he <;> try contradiction
    cases hk : kindEq k k' with
    | false => simp [hk] at he
    | true =>
    obtain rfl := kindEq_eq hk
    simp only [hk, cond_true, Option.some.injEq, beq_iff_eq] at he
    rw [he]
  case str.str x y =>
    simp only [rep] at rk ra
    subst rk; subst ra
    cases hU : P.underlying t with
    | none => simp [hU] at he
    | some u =>
    cases u <;> simp only [hU] at he <;> try contradiction
    simp only [Option.some.injEq, beq_iff_eq] at he
    rw [he]
  case agg.agg l m =>
    simp only [rep] at rk ra
    obtain ⟨zs, rfl, hz, -⟩ := rk
    obtain ⟨us, rfl, hu, -⟩ := ra
    unfold structEq at he
    cases hU : P.underlying t with
    | none => simp [hU] at he
    | some u =>
    cases u <;> simp only [hU] at he <;> try contradiction
    rw [fieldsEq_val he hz hu]

theorem eqK_bits {t : TypeId} {k : AV} {e : Bool} {kv : Value} (he : eqK P t k k = some e) (rk : rep F V k kv) : Instr.sameBits 10000 kv kv = true := by
  rw [show (10000 : Nat) = 9999 + 1 from rfl]
  cases k <;> simp only [eqK] at he <;> try (cases he; done)
  case int k x =>
    simp only [rep] at rk
    subst rk
    simp [Instr.sameBits]
  case str x =>
    simp only [rep] at rk
    subst rk
    simp [Instr.sameBits, ba_beq]
  case agg l =>
    simp only [rep] at rk
    obtain ⟨zs, rfl, hz, -⟩ := rk
    unfold structEq at he
    cases hU : P.underlying t with
    | none => simp [hU] at he
    | some u =>
    cases u <;> simp only [hU] at he <;> try contradiction
    have := fields_bits (d := 9999) he hz
    simp only [Instr.sameBits, beq_self_eq_true, Bool.true_and, List.all_eq_true]
    rintro ⟨x, y⟩ hxy
    have hx : x = y ∧ x ∈ zs := by
      have : ∀ (l : List Value) (p : Value × Value), p ∈ l.zip l → p.1 = p.2 ∧ p.1 ∈ l := by
        intro l
        induction l with
        | nil => intro p hp; simp at hp
        | cons z l ih =>
          intro p hp
          rcases List.mem_cons.1 hp with rfl | hp
          · exact ⟨rfl, List.mem_cons_self⟩
          · exact ⟨(ih p hp).1, List.mem_cons_of_mem _ (ih p hp).2⟩
      exact this zs (x, y) hxy
    rw [← hx.1]
    exact this x hx.2

/-- An object replaced, where it stands. -/
theorem Inv.setO (i : Inv F V h w) {id : Nat} {O O' : AObj} (hg : get h id = some O) (hO : ∀ s, O ≠ .tip s) (hO' : ∀ s, O' ≠ .tip s) {b : Nat} (hb : V.obj id = some b) {o0 ob : Obj} (hh0 : w.heap[b]? = some o0)
    (hrep : ∀ w' : World, w'.heap[b]? = some ob → objRep F V w' id O') :
    Inv F V (upd h id O') { w with heap := w.heap.setIfInBounds b ob } ∧ Step F V h w F V (upd h id O') { w with heap := w.heap.setIfInBounds b ob } := by
  have own1 : ∀ {o : AObj} {j : Nat}, (∀ s, o ≠ .tip s) → own V j o = V.obj j := fun {o j} ho => by
    cases o <;> first | rfl | exact absurd rfl (ho _)
  have free1 : ∀ {o : AObj} {j off : Nat}, (∀ s, o ≠ .tip s) → free V j off o := fun {o j off} ho => by
    cases o <;> first | trivial | exact absurd rfl (ho _)
  obtain ⟨hnew, hold⟩ := Go.MapKept.heap_set (o' := ob) hh0
  have hget : ∀ id' o, get (upd h id O') id' = some o → (id' = id ∧ o = O') ∨ (id' ≠ id ∧ get h id' = some o) := by
    intro id' o hg'
    rw [get_upd] at hg'
    split at hg'
    · rw [hg] at hg'; simp at hg'; exact .inl ⟨by assumption, hg'.symm⟩
    · exact .inr ⟨by assumption, hg'⟩
  have hob : ∀ (id' : Nat) o, id' ≠ id → get h id' = some o → ∀ b', own V id' o = some b' → b' ≠ b := by
    intro id' o hne hg' b' hb' e'
    subst e'
    exact hne (i.inj id' id o _ b' hg' hg hb' (by rw [own1 hO]; exact hb))
  refine ⟨⟨?_, ?_, ?_, ?_⟩, ⟨.refl F, .refl V, ?_, fun _ _ _ k => .inl k, by simp, ?_, rfl, rfl, rfl, Nat.le_refl _⟩⟩
  · intro b' o y hy
    have hne : b' ≠ b := by
      intro e'; subst e'
      rw [i.nofix id _ b' o hg (by rw [own1 hO]; exact hb) (free1 hO)] at hy; cases hy
    have := i.fixed b' o y hy
    simp only [World.cell?] at this ⊢
    rw [hold b' hne]; exact this
  · intro id' o hg'
    rcases hget id' o hg' with ⟨rfl, rfl⟩ | ⟨hne, hg'⟩
    · exact hrep _ hnew
    · exact (i.objs id' o hg').keep fun b2 hb2 => hold b2 (hob id' _ hne hg' b2 hb2)
  · intro id' o b' off hg' hob' hfr
    rcases hget id' o hg' with ⟨rfl, rfl⟩ | ⟨hne, hg'⟩
    · rw [own1 hO'] at hob'
      exact i.nofix id' _ b' off hg (by rw [own1 hO]; exact hob') (free1 hO)
    · exact i.nofix id' o b' off hg' hob' hfr
  · intro id1 id2 o1 o2 b' hg1 hg2 hb1 hb2
    rcases hget id1 o1 hg1 with ⟨rfl, rfl⟩ | ⟨hne1, hga1⟩ <;> rcases hget id2 o2 hg2 with ⟨rfl, rfl⟩ | ⟨hne2, hga2⟩
    · rfl
    · rw [own1 hO'] at hb1
      exact i.inj _ _ _ _ b' hg hga2 (by rw [own1 hO]; exact hb1) hb2
    · rw [own1 hO'] at hb2
      exact i.inj _ _ _ _ b' hga1 hg hb1 (by rw [own1 hO]; exact hb2)
    · exact i.inj _ _ _ _ b' hga1 hga2 hb1 hb2
  · rintro b' ⟨id', o, hg', hb'⟩
    rcases hget id' o hg' with ⟨rfl, rfl⟩ | ⟨hne, hg'⟩
    · rw [own1 hO'] at hb'
      exact .inl ⟨id', _, hg, by rw [own1 hO]; exact hb'⟩
    · exact .inl ⟨id', o, hg', hb'⟩
  · intro b' _ hn
    exact hold b' fun e' => hn (by subst e'; exact ⟨id, _, hg, by rw [own1 hO]; exact hb⟩)

theorem Inv.allocAny (i : Inv F V h w) (o : Obj) : Inv F V h (w.alloc o) where
  fixed := fun b off x hx => by
    rw [World.cell?_alloc_lt w _ ⟨b, off, none⟩ (i.fixed_lt hx)]
    exact i.fixed b off x hx
  objs := fun id ob hg => (i.objs id ob hg).alloc
  nofix := i.nofix
  inj := i.inj

/-- A block gets a name. -/
theorem Inv.nameO (i : Inv F V h w) {nx b : Nat} (hf : fresh V nx) (hno : ¬ Own V h b) (hfx : ∀ off, F b off = none) {O : AObj} (hO : ∀ s, O ≠ .tip s) (hrep : ∀ V' : View, V.le V' → V'.obj nx = some b → objRep F V' w nx O) :
    Inv F (V.addObj nx b) ((nx, O) :: h) w ∧ fresh (V.addObj nx b) (nx + 1) ∧ V.le (V.addObj nx b) ∧ ∀ c, Own (V.addObj nx b) ((nx, O) :: h) c → Own V h c ∨ c = b := by
  have hn := hf nx (Nat.le_refl _)
  have hV : V.le (V.addObj nx b) := View.le_addObj hn.1
  have hown : ∀ id o, id ≠ nx → own (V.addObj nx b) id o = own V id o := by
    intro id o hne
    cases o <;> simp [own, View.addObj, hne]
  have hown0 : own (V.addObj nx b) nx O = some b := by
    cases O <;> first | (simp [own, View.addObj]; done) | exact absurd rfl (hO _)
  have holds' : ∀ id o, get ((nx, O) :: h) id = some o → (id = nx ∧ o = O) ∨ (id ≠ nx ∧ get h id = some o) := by
    intro id o hg
    rw [get_cons] at hg
    split at hg
    · cases hg; exact .inl ⟨by assumption, rfl⟩
    · exact .inr ⟨by assumption, hg⟩
  refine ⟨⟨i.fixed, ?_, ?_, ?_⟩, ?_, hV, ?_⟩
  · intro id o hg
    rcases holds' id o hg with ⟨rfl, rfl⟩ | ⟨hne, hg⟩
    · exact hrep _ hV (by simp [View.addObj])
    · exact (i.objs id o hg).view hV (fun s _ => rfl)
  · intro id o c off hg hob hfr
    rcases holds' id o hg with ⟨rfl, rfl⟩ | ⟨hne, hg⟩
    · rw [hown0] at hob; cases hob
      exact hfx off
    · rw [hown id o hne] at hob
      refine i.nofix id o c off hg hob ?_
      cases o with
      | tip s => exact hfr
      | cells l => trivial
      | map es => trivial
      | ment es mj ms => trivial
      | mapN es nb nc => trivial
      | iter im isn ise il => trivial
      | loop en kk ps as bo st => trivial
  · intro id id' o o' c hg hg' hob hob'
    rcases holds' id o hg with ⟨rfl, rfl⟩ | ⟨hne, hga⟩ <;> rcases holds' id' o' hg' with ⟨rfl, rfl⟩ | ⟨hne', hga'⟩
    · rfl
    · rw [hown0] at hob; cases hob
      rw [hown id' o' hne'] at hob'
      exact absurd ⟨id', o', hga', hob'⟩ hno
    · rw [hown0] at hob'; cases hob'
      rw [hown id o hne] at hob
      exact absurd ⟨id, o, hga, hob⟩ hno
    · rw [hown id o hne] at hob
      rw [hown id' o' hne'] at hob'
      exact i.inj id id' o o' c hga hga' hob hob'
  · intro id hid
    have := hf id (by omega)
    simp only [View.addObj]
    rw [if_neg (by omega)]
    exact this
  · intro c hc
    obtain ⟨id, o, hg, hob⟩ := hc
    rcases holds' id o hg with ⟨rfl, rfl⟩ | ⟨hne, hg⟩
    · rw [hown0] at hob; cases hob
      exact .inr rfl
    · rw [hown id o hne] at hob
      exact .inl ⟨id, o, hg, hob⟩

/-- As a step from where the block was not yet. -/
theorem Step.name {F0 : Fix} {V0 V' : View} {h0 h' : Heap} {w0 : World} (s : Step F0 V0 h0 w0 F V h w) {b : Nat} (hlo : w0.heap.size ≤ b) (hV : V.le V') (hO : ∀ c, Own V' h' c → Own V h c ∨ c = b) : Step F0 V0 h0 w0 F V' h' w :=
  ⟨s.fix, s.view.trans hV, fun c hc => by
    rcases hO c hc with h1 | rfl
    · exact s.own c h1
    · exact .inr hlo, s.newfix, s.size, s.touch, s.os, s.tape, s.output, s.drawn⟩

end
end Go.Sym

namespace Go.Sym

section
variable {P : Program} {F : Fix} {V : View} {h : Heap} {w : World}

theorem mapRep {id b : Nat} {es : List (AV × AV)} {xs : Array MapEntry} {clock : Nat} (hb : V.obj id = some b) (h1 : repL F V (es.map (·.1)) (xs.toList.map (·.key))) (h2 : repL F V (es.map (·.2)) (xs.toList.map (·.val)))
    (h3 : ∀ (i : Nat) (e : MapEntry), xs[i]? = some e → e.born < clock) (h4 : ∀ (i j : Nat) (e e' : MapEntry), xs[i]? = some e → xs[j]? = some e' → i < j → e.born < e'.born) {w' : World} (hh : w'.heap[b]? = some (.map xs clock)) : objRep F V w' id (.map es) :=
  ⟨b, xs, clock, hb, hh, h1, h2, h3, h4⟩

theorem map_set {t kt et : TypeId} {id b : Nat} {es : List (AV × AV)} {k v : AV} {kv vv : Value} (i : Inv F V h w) (hU : P.underlying t = some (.map kt et)) (hg : get h id = some (.map es)) (hb : V.obj id = some b) (hm : mapAsk P kt es k) (rk : rep F V k kv) (rv : rep F V v vv) :
    ∃ w', (Instr.mapUpdate t (.map (some b)) kv vv).run P w = .ok () w' ∧ Inv F V (upd h id (.map (setE es k v))) w' ∧ Step F V h w F V (upd h id (.map (setE es k v))) w' := by
  obtain ⟨b', xs, clock, hv, hh, h1, h2, h3, h4⟩ := i.objs id _ hg
  rw [hb] at hv; cases hv
  have hc := checkKey_run (w := w) (em := false) hm.2.1 rk
  have hf := findKey_run (w := w) hm rk h1
  rcases goE_find (k := k) (i := 0) h1 h2 with ⟨-, g2, g3, -⟩ | ⟨j, a, v0, e, -, g2, g4, -, g5, g6, g7, g8, -⟩
  · rw [g2] at hf
    have hso := i.setO (O' := .map (setE es k v)) (ob := .map (xs.push { key := kv, val := vv, born := clock }) (clock + 1)) hg (fun _ e => by cases e) (fun _ e => by cases e) hb hh fun w' hw' => by
      rw [g3]
      refine mapRep hb ?_ ?_ ?_ ?_ hw'
      · simp only [List.map_append, List.map_cons, List.map_nil, Array.toList_push]
        exact h1.append ⟨kv, [], rfl, rk, rfl⟩
      · simp only [List.map_append, List.map_cons, List.map_nil, Array.toList_push]
        exact h2.append ⟨vv, [], rfl, rv, rfl⟩
      · intro i e he
        rw [Array.getElem?_push] at he
        split at he
        · cases he; exact Nat.lt_succ_self _
        · exact Nat.lt_succ_of_lt (h3 i e he)
      · intro i j e e' hi hj hij
        rw [Array.getElem?_push] at hi hj
        split at hj
        · cases hj
          split at hi
          · omega
          · exact h3 i e hi
        · have hlt := (Array.getElem?_eq_some_iff.1 hj).1
          rw [if_neg (by omega)] at hi
          exact h4 i j e e' hi hj hij
    refine ⟨_, ?_, hso⟩
    unfold Instr.mapUpdate
    simp only [Sem.run_bind, run_underlying hU, Result.andThen_ok, Go.MapKept.run_getObj_map hh, hc, hf, Go.MapKept.run_setObj_map _ hh]
  · rw [g2] at hf
    have hek : eqK P kt k a = some true := by
      have := hm.2.2 (a, v0) (List.mem_of_getElem? g5)
      rw [this, g6]
    have hval := eqK_val hek rk g7
    have hbits := eqK_bits hm.2.1 rk
    have hjlt : j < xs.size := by
      have := (List.getElem?_eq_some_iff.1 (show xs.toList[j]? = some e by simpa using g4)).1
      simpa using this
    have hje : xs[j]? = some e := by simpa using g4
    have hmod : xs.modify j (fun e => { e with key := kv, val := vv }) = xs.setIfInBounds j { e with key := kv, val := vv } := by
      apply Array.ext_getElem?
      intro m
      rw [Array.getElem?_modify, Array.getElem?_setIfInBounds]
      by_cases hmj : j = m
      · subst hmj
        have hxe := (Array.getElem?_eq_some_iff.1 hje).2
        simp [hjlt, hxe]
      · simp [hmj]
    have hso := i.setO (O' := .map (setE es k v)) (ob := .map (xs.setIfInBounds j { e with key := kv, val := vv }) clock) hg (fun _ e => by cases e) (fun _ e => by cases e) hb hh fun w' hw' => by
      rw [g8]
      have hsl : (xs.setIfInBounds j { e with key := kv, val := vv }).toList = xs.toList.set j { e with key := kv, val := vv } := by simp
      have hget : ∀ (m : Nat) (x : MapEntry), (xs.setIfInBounds j { e with key := kv, val := vv })[m]? = some x → ∃ y, xs[m]? = some y ∧ x.born = y.born := fun m x hx => by
        rw [Array.getElem?_setIfInBounds] at hx
        by_cases hmj : j = m
        · subst hmj
          simp [hjlt] at hx
          exact ⟨e, hje, by rw [← hx]⟩
        · simp [hmj] at hx
          exact ⟨x, hx, rfl⟩
      refine mapRep hb ?_ ?_ ?_ ?_ hw'
      · rw [hsl, List.map_set, List.map_set]
        exact h1.set j (by rw [← hval]; exact g7)
      · rw [hsl, List.map_set, List.map_set]
        exact h2.set j rv
      · intro m x hx
        obtain ⟨y, hy, e1⟩ := hget m x hx
        rw [e1]; exact h3 m y hy
      · intro m n x x' hx hx' hlt
        obtain ⟨y, hy, e1⟩ := hget m x hx
        obtain ⟨y', hy', e2⟩ := hget n x' hx'
        rw [e1, e2]; exact h4 m n y y' hy hy' hlt
    refine ⟨_, ?_, hso⟩
    have hkts : (Instr.keyThatStays (((xs[j]?).map (·.key)).getD kv) kv).run P w = .ok kv w := by
      rw [hje]
      simp only [Option.map_some, Option.getD_some, hval]
      unfold Instr.keyThatStays
      simp [hbits]
    unfold Instr.mapUpdate
    simp only [Sem.run_bind, run_underlying hU, Result.andThen_ok, Go.MapKept.run_getObj_map hh, hc, hf, hkts, Nat.zero_add, Go.MapKept.run_setObj_map _ hh]
    rw [hmod]

theorem mentRep {id b j s : Nat} {es : List (AV × AV)} {xs : Array MapEntry} {clock : Nat} (hb : V.obj id = some b) (h1 : repL F V (es.map (·.1)) (xs.toList.map (·.key))) (h2 : repL F V (es.map (·.2)) (xs.toList.map (·.val)))
    (h3 : ∀ (i : Nat) (e : MapEntry), xs[i]? = some e → e.born < clock) (h4 : ∀ (i j : Nat) (e e' : MapEntry), xs[i]? = some e → xs[j]? = some e' → i < j → e.born < e'.born) (h5 : ∃ e, xs[j]? = some e ∧ e.born = s) {w' : World} (hh : w'.heap[b]? = some (.map xs clock)) : objRep F V w' id (.ment es j s) :=
  ⟨b, xs, clock, hb, hh, h1, h2, h3, h4, h5⟩

theorem goE_idx {k : AV} : ∀ {es : List (AV × AV)} {xs : List MapEntry} {i m : Nat} {v : Value}, goE es k xs i = some (m, v) → m = i + idxE es k
  | [], xs, i, m, v, h => by cases xs <;> simp [goE] at h
  | (a, x) :: es, [], i, m, v, h => by simp [goE] at h
  | (a, x) :: es, e :: xs, i, m, v, h => by
    simp only [goE] at h
    cases hk : keyEq k a with
    | true => simp only [hk, cond_true, Option.some.injEq, Prod.mk.injEq] at h; simp [idxE, hk, h.1]
    | false =>
      simp only [hk, cond_false] at h
      have := goE_idx h
      simp only [idxE, hk, cond_false]
      omega
theorem idxE_none {k : AV} : ∀ {es : List (AV × AV)}, findE es k = none → idxE es k = es.length
  | [], _ => rfl
  | (a, x) :: es, h => by
    simp only [findE] at h
    cases hk : keyEq k a with
    | true => simp [hk] at h
    | false => simp only [hk, cond_false] at h; simp [idxE, hk, idxE_none h]
theorem setJ_eq : ∀ {es : List (AV × AV)} {j : Nat} {a x v : AV}, es[j]? = some (a, x) → setJ es j v = es.set j (a, v)
  | [], j, a, x, v, h => by simp at h
  | (b, y) :: es, 0, a, x, v, h => by
    simp only [List.getElem?_cons_zero, Option.some.injEq, Prod.mk.injEq] at h
    simp [setJ, h.1]
  | e :: es, j + 1, a, x, v, h => by
    simp only [List.getElem?_cons_succ] at h
    simp [setJ, setJ_eq h]
theorem setJ_setE (k v0 v : AV) : ∀ es : List (AV × AV), setJ (setE es k v0) (idxE es k) v = setE es k v
  | [] => rfl
  | (a, x) :: es => by
    simp only [setE, idxE]
    cases keyEq k a with
    | true => rfl
    | false => simp only [cond_false, setJ, setJ_setE k v0 v es]

theorem map_entry {t kt et : TypeId} {id b : Nat} {es : List (AV × AV)} {k : AV} {kv : Value} (i : Inv F V h w) (hU : P.underlying t = some (.map kt et)) (hg : get h id = some (.map es)) (hb : V.obj id = some b) (hm : mapAsk P kt es k) (rk : rep F V k kv) (hne : zeroT P et ≠ .top) :
    ∃ w' val s, (Instr.mapEntry t (.map (some b)) kv).run P w = .ok (.tuple #[val, goInt (s : Nat)]) w' ∧ rep F V (lookV es k (zeroT P et) false) val ∧ Inv F V (upd h id (.ment (setE es k (lookV es k (zeroT P et) false)) (idxE es k) s)) w' ∧ Step F V h w F V (upd h id (.ment (setE es k (lookV es k (zeroT P et) false)) (idxE es k) s)) w' := by
  obtain ⟨b', xs, clock, hv, hh, h1, h2, h3, h4⟩ := i.objs id _ hg
  rw [hb] at hv; cases hv
  have hc := checkKey_run (w := w) (em := false) hm.2.1 rk
  have hf := findKey_run (w := w) hm rk h1
  have hlen := h1.length
  simp only [List.length_map, Array.length_toList] at hlen
  rcases goE_find (k := k) (i := 0) h1 h2 with ⟨g1, g2, g3, -⟩ | ⟨j, a, v0, e, g1, g2, g4, g0, g5, g6, g7, g8, -⟩
  · rw [g2] at hf
    obtain ⟨z, hz, hr, -⟩ := zeroT_run (P := P) (F := F) (V := V) rfl hne
    have hl : lookV es k (zeroT P et) false = zeroT P et := by unfold lookV; rw [g1]; rfl
    have hi := idxE_none g1
    have hso := i.setO (O' := .ment (setE es k (zeroT P et)) (idxE es k) clock) (ob := .map (xs.push { key := kv, val := z, born := clock }) (clock + 1)) hg (fun _ e => by cases e) (fun _ e => by cases e) hb hh fun w' hw' => by
      rw [g3, hi]
      refine mentRep hb ?_ ?_ ?_ ?_ ⟨{ key := kv, val := z, born := clock }, by rw [hlen]; exact Array.getElem?_push_size, rfl⟩ hw'
      · simp only [List.map_append, List.map_cons, List.map_nil, Array.toList_push]
        exact h1.append ⟨kv, [], rfl, rk, rfl⟩
      · simp only [List.map_append, List.map_cons, List.map_nil, Array.toList_push]
        exact h2.append ⟨z, [], rfl, hr, rfl⟩
      · intro i e he
        rw [Array.getElem?_push] at he
        split at he
        · cases he; exact Nat.lt_succ_self _
        · exact Nat.lt_succ_of_lt (h3 i e he)
      · intro i j e e' hi hj hij
        rw [Array.getElem?_push] at hi hj
        split at hj
        · cases hj
          split at hi
          · omega
          · exact h3 i e hi
        · have hlt := (Array.getElem?_eq_some_iff.1 hj).1
          rw [if_neg (by omega)] at hi
          exact h4 i j e e' hi hj hij
    rw [hl]
    refine ⟨_, z, clock, ?_, hr, hso⟩
    unfold Instr.mapEntry
    simp only [Sem.run_bind, run_underlying hU, Result.andThen_ok, Go.MapKept.run_getObj_map hh, hc, hf, hz, Go.MapKept.run_setObj_map _ hh, Sem.run_pure]
  · rw [g2] at hf
    have hix : idxE es k = j := by have := goE_idx g2; omega
    have hl : lookV es k (zeroT P et) false = v0 := by unfold lookV; rw [g1]; rfl
    have hek : eqK P kt k a = some true := by
      have := hm.2.2 (a, v0) (List.mem_of_getElem? g5)
      rw [this, g6]
    have hval := eqK_val hek rk g7
    have hbits := eqK_bits hm.2.1 rk
    have hjlt : j < xs.size := by
      have := (List.getElem?_eq_some_iff.1 (show xs.toList[j]? = some e by simpa using g4)).1
      simpa using this
    have hje : xs[j]? = some e := by simpa using g4
    have hmod : xs.modify j (fun e => { e with key := kv }) = xs.setIfInBounds j { e with key := kv } := by
      apply Array.ext_getElem?
      intro m
      rw [Array.getElem?_modify, Array.getElem?_setIfInBounds]
      by_cases hmj : j = m
      · subst hmj
        have hxe := (Array.getElem?_eq_some_iff.1 hje).2
        simp [hjlt, hxe]
      · simp [hmj]
    have hso := i.setO (O' := .ment (setE es k v0) (idxE es k) e.born) (ob := .map (xs.setIfInBounds j { e with key := kv }) clock) hg (fun _ e => by cases e) (fun _ e => by cases e) hb hh fun w' hw' => by
      rw [g8, hix]
      have hsl : (xs.setIfInBounds j { e with key := kv }).toList = xs.toList.set j { e with key := kv } := by simp
      have hget : ∀ (m : Nat) (x : MapEntry), (xs.setIfInBounds j { e with key := kv })[m]? = some x → ∃ y, xs[m]? = some y ∧ x.born = y.born := fun m x hx => by
        rw [Array.getElem?_setIfInBounds] at hx
        by_cases hmj : j = m
        · subst hmj
          simp [hjlt] at hx
          exact ⟨e, hje, by rw [← hx]⟩
        · simp [hmj] at hx
          exact ⟨x, hx, rfl⟩
      refine mentRep hb ?_ ?_ ?_ ?_ ⟨{ e with key := kv }, by simp [hjlt], rfl⟩ hw'
      · rw [hsl, List.map_set, List.map_set]
        exact h1.set j (by rw [← hval]; exact g7)
      · rw [hsl, List.map_set, List.map_set]
        exact h2.set j g0
      · intro m x hx
        obtain ⟨y, hy, e1⟩ := hget m x hx
        rw [e1]; exact h3 m y hy
      · intro m n x x' hx hx' hlt
        obtain ⟨y, hy, e1⟩ := hget m x hx
        obtain ⟨y', hy', e2⟩ := hget n x' hx'
        rw [e1, e2]; exact h4 m n y y' hy hy' hlt
    rw [hl]
    refine ⟨_, e.val, e.born, ?_, g0, hso⟩
    have hkts : (Instr.keyThatStays (((xs[j]?).map (·.key)).getD kv) kv).run P w = .ok kv w := by
      rw [hje]
      simp only [Option.map_some, Option.getD_some, hval]
      unfold Instr.keyThatStays
      simp [hbits]
    unfold Instr.mapEntry
    simp only [Sem.run_bind, run_underlying hU, Result.andThen_ok, Go.MapKept.run_getObj_map hh, hc, hf, hkts, Nat.zero_add, Go.MapKept.run_setObj_map _ hh, Sem.run_pure]
    rw [hmod, hje]
    rfl

theorem map_store {t : TypeId} {id b j s : Nat} {kk : IntKind} {es : List (AV × AV)} {v : AV} {vv : Value} (i : Inv F V h w) (hg : get h id = some (.ment es j s)) (hb : V.obj id = some b) (rv : rep F V v vv) :
    ∃ w', (Instr.entryStore t (.map (some b)) (.int kk (s : Int)) vv).run P w = .ok () w' ∧ Inv F V (upd h id (.map (setJ es j v))) w' ∧ Step F V h w F V (upd h id (.map (setJ es j v))) w' := by
  obtain ⟨b', xs, clock, hv, hh, h1, h2, h3, h4, e, hje, hes⟩ := i.objs id _ hg
  rw [hb] at hv; cases hv
  have hlen := h1.length
  simp only [List.length_map, Array.length_toList] at hlen
  have hjlt : j < xs.size := (Array.getElem?_eq_some_iff.1 hje).1
  have hxe := (Array.getElem?_eq_some_iff.1 hje).2
  obtain ⟨⟨a, x0⟩, hax⟩ : ∃ y, es[j]? = some y := ⟨_, List.getElem?_eq_getElem (by omega)⟩
  have hfi : xs.findIdx? (fun e => (e.born : Int) == (s : Int)) = some j := by
    rw [Array.findIdx?_eq_some_iff_getElem]
    refine ⟨hjlt, by rw [hxe, hes]; simp, fun m hm => ?_⟩
    have := h4 m j _ e (Array.getElem?_eq_getElem (by omega)) hje hm
    simp only [beq_iff_eq]
    omega
  have hmod : xs.modify j (fun e => { e with val := vv }) = xs.setIfInBounds j { e with val := vv } := by
    apply Array.ext_getElem?
    intro m
    rw [Array.getElem?_modify, Array.getElem?_setIfInBounds]
    by_cases hmj : j = m
    · subst hmj
      simp [hjlt, hxe]
    · simp [hmj]
  have hso := i.setO (O' := .map (setJ es j v)) (ob := .map (xs.setIfInBounds j { e with val := vv }) clock) hg (fun _ e => by cases e) (fun _ e => by cases e) hb hh fun w' hw' => by
    rw [setJ_eq hax]
    have hsl : (xs.setIfInBounds j { e with val := vv }).toList = xs.toList.set j { e with val := vv } := by simp
    have hget : ∀ (m : Nat) (x : MapEntry), (xs.setIfInBounds j { e with val := vv })[m]? = some x → ∃ y, xs[m]? = some y ∧ x.born = y.born := fun m x hx => by
      rw [Array.getElem?_setIfInBounds] at hx
      by_cases hmj : j = m
      · subst hmj
        simp [hjlt] at hx
        exact ⟨e, hje, by rw [← hx]⟩
      · simp [hmj] at hx
        exact ⟨x, hx, rfl⟩
    obtain ⟨y, hy, ry⟩ := h1.get j a (by simp [hax])
    have hye : y = e.key := by
      rw [List.getElem?_map, Array.getElem?_toList, hje] at hy
      simpa using hy.symm
    refine mapRep hb ?_ ?_ ?_ ?_ hw'
    · rw [hsl, List.map_set, List.map_set]
      exact h1.set j (by rw [← hye]; exact ry)
    · rw [hsl, List.map_set, List.map_set]
      exact h2.set j rv
    · intro m x hx
      obtain ⟨y, hy, e1⟩ := hget m x hx
      rw [e1]; exact h3 m y hy
    · intro m n x x' hx hx' hlt
      obtain ⟨y, hy, e1⟩ := hget m x hx
      obtain ⟨y', hy', e2⟩ := hget n x' hx'
      rw [e1, e2]; exact h4 m n y y' hy hy' hlt
  refine ⟨_, ?_, hso⟩
  unfold Instr.entryStore
  simp only [Sem.run_bind, Result.andThen_ok, Go.MapKept.run_getObj_map hh, asInt, asIntOf, Sem.run_pure, hfi, Go.MapKept.run_setObj_map _ hh]
  rw [hmod]

theorem map_del {t kt et ty : TypeId} {ts : Array TypeId} {id b : Nat} {es : List (AV × AV)} {k : AV} {kv : Value} (i : Inv F V h w) (hU : P.underlying t = some (.map kt et)) (ht : ts[0]? = some t) (hg : get h id = some (.map es)) (hb : V.obj id = some b) (hm : mapAsk P kt es k) (rk : rep F V k kv) :
    ∃ w', (Builtin.delete_ ts ty #[.map (some b), kv]).run P w = .ok (.tuple #[]) w' ∧ Inv F V (upd h id (.map (delE es k))) w' ∧ Step F V h w F V (upd h id (.map (delE es k))) w' := by
  obtain ⟨b', xs, clock, hv, hh, h1, h2, h3, h4⟩ := i.objs id _ hg
  rw [hb] at hv; cases hv
  have hc := checkKey_run (w := w) (em := xs.isEmpty) hm.2.1 rk
  have hf := findKey_run (w := w) hm rk h1
  rcases goE_find (k := k) (i := 0) h1 h2 with ⟨-, g2, -, g3⟩ | ⟨j, a, v0, e, -, g2, g4, -, -, -, -, -, g8⟩
  · rw [g2] at hf
    have hso := i.setO (O' := .map (delE es k)) (ob := .map xs clock) hg (fun _ e => by cases e) (fun _ e => by cases e) hb hh fun w' hw' => by
      rw [g3]
      exact mapRep hb h1 h2 h3 h4 hw'
    refine ⟨_, ?_, hso⟩
    unfold Builtin.delete_
    simp [ht, run_underlying hU, Go.MapKept.run_getObj_map hh, hc, hf, Go.MapKept.run_setObj_map _ hh]
  · rw [g2] at hf
    have hjlt : j < xs.size := by
      have := (List.getElem?_eq_some_iff.1 (show xs.toList[j]? = some e by simpa using g4)).1
      simpa using this
    have hel : (xs.eraseIdxIfInBounds j).toList = xs.toList.eraseIdx j := by
      unfold Array.eraseIdxIfInBounds
      rw [dif_pos hjlt]
      exact Array.toList_eraseIdx ..
    have hso := i.setO (O' := .map (delE es k)) (ob := .map (xs.eraseIdxIfInBounds j) clock) hg (fun _ e => by cases e) (fun _ e => by cases e) hb hh fun w' hw' => by
      rw [g8]
      have hme : ∀ {α β : Type} (f : α → β) (l : List α) (n : Nat), (l.eraseIdx n).map f = (l.map f).eraseIdx n := fun f l => by
        induction l with
        | nil => intro n; rfl
        | cons x l ih => intro n; cases n <;> simp_all
      have hre : ∀ {l : List AV} {vs : List Value}, repL F V l vs → ∀ n, repL F V (l.eraseIdx n) (vs.eraseIdx n) := fun {l} => by
        induction l with
        | nil => intro vs hl n; simp only [repL] at hl; subst hl; simp [repL]
        | cons x l ih =>
          intro vs hl n
          simp only [repL] at hl
          obtain ⟨y, ys, rfl, hy, hys⟩ := hl
          cases n with
          | zero => exact hys
          | succ n => exact ⟨y, _, rfl, hy, ih hys n⟩
      have hget : ∀ (m : Nat) (x : MapEntry), (xs.eraseIdxIfInBounds j)[m]? = some x → xs[if m < j then m else m + 1]? = some x := fun m x hx => by
        have hx : (xs.eraseIdxIfInBounds j).toList[m]? = some x := by rw [Array.getElem?_toList]; exact hx
        rw [hel, List.getElem?_eraseIdx] at hx
        split at hx <;> rename_i hlt
        · rw [if_pos hlt]; simpa using hx
        · rw [if_neg hlt]; simpa using hx
      refine mapRep hb ?_ ?_ ?_ ?_ hw'
      · rw [hel, hme, hme]; exact hre h1 j
      · rw [hel, hme, hme]; exact hre h2 j
      · intro m x hx
        exact h3 _ x (hget m x hx)
      · intro m n x x' hx hx' hlt
        exact h4 _ _ x x' (hget m x hx) (hget n x' hx') (by split <;> split <;> omega)
    refine ⟨_, ?_, hso⟩
    unfold Builtin.delete_
    simp [ht, run_underlying hU, Go.MapKept.run_getObj_map hh, hc, hf, Go.MapKept.run_setObj_map _ hh]

theorem map_delNil {t kt et ty : TypeId} {ts : Array TypeId} {k : AV} {kv : Value} (hU : P.underlying t = some (.map kt et)) (ht : ts[0]? = some t) (hm : mapAsk P kt [] k) (rk : rep F V k kv) :
    (Builtin.delete_ ts ty #[.map none, kv]).run P w = .ok (.tuple #[]) w := by
  have hc := checkKey_run (w := w) (em := true) hm.2.1 rk
  unfold Builtin.delete_
  simp [ht, run_underlying hU, hc]
end
end Go.Sym

namespace Go.Sym

section
variable {P : Program} {F : Fix} {V : View} {h : Heap} {w : World}

/-- A new object by name, whatever it is. -/
theorem Inv.newObj (i : Inv F V h w) {nx : Nat} (hf : fresh V nx) {ob : AObj} {o : Obj} (hown0 : own (V.addObj nx w.heap.size) nx ob = some w.heap.size) (hrep : objRep F (V.addObj nx w.heap.size) (w.alloc o) nx ob) :
    Inv F (V.addObj nx w.heap.size) ((nx, ob) :: h) (w.alloc o) ∧ Step F V h w F (V.addObj nx w.heap.size) ((nx, ob) :: h) (w.alloc o) ∧ fresh (V.addObj nx w.heap.size) (nx + 1) := by
  have hn := hf nx (Nat.le_refl _)
  have hV : V.le (V.addObj nx w.heap.size) := View.le_addObj hn.1
  have hown : ∀ id o, id ≠ nx → own (V.addObj nx w.heap.size) id o = own V id o := by
    intro id o hne
    cases o <;> simp [own, View.addObj, hne]
  have holds' : ∀ id o, get ((nx, ob) :: h) id = some o → (id = nx ∧ o = ob) ∨ (id ≠ nx ∧ get h id = some o) := by
    intro id o hg
    rw [get_cons] at hg
    split at hg
    · cases hg; exact .inl ⟨by assumption, rfl⟩
    · exact .inr ⟨by assumption, hg⟩
  refine ⟨⟨?_, ?_, ?_, ?_⟩, ⟨.refl F, hV, ?_, fun _ _ _ k => .inl k, by simp, fun b hb _ => heap_old w _ hb, rfl, rfl, rfl, Nat.le_refl _⟩, ?_⟩
  · intro b o x hx
    rw [World.cell?_alloc_lt w _ ⟨b, o, none⟩ (i.fixed_lt hx)]
    exact i.fixed b o x hx
  · intro id o hg
    rcases holds' id o hg with ⟨rfl, rfl⟩ | ⟨hne, hg⟩
    · exact hrep
    · exact ((i.objs id o hg).alloc).view hV (fun s _ => rfl)
  · intro id o b off hg hob hfr
    rcases holds' id o hg with ⟨rfl, rfl⟩ | ⟨hne, hg⟩
    · rw [hown0] at hob; cases hob
      exact i.fnew off
    · rw [hown id o hne] at hob
      refine i.nofix id o b off hg hob ?_
      cases o with
      | tip s => exact hfr
      | cells l => trivial
      | map es => trivial
      | ment es mj ms => trivial
      | mapN es nb nc => trivial
      | iter im isn ise il => trivial
      | loop en kk ps as bo st => trivial
  · intro id id' o o' b hg hg' hob hob'
    rcases holds' id o hg with ⟨rfl, rfl⟩ | ⟨hne, hga⟩ <;> rcases holds' id' o' hg' with ⟨rfl, rfl⟩ | ⟨hne', hga'⟩
    · rfl
    · rw [hown0] at hob; cases hob
      rw [hown id' o' hne'] at hob'
      exact absurd (i.own_lt ⟨id', o', hga', hob'⟩) (Nat.lt_irrefl _)
    · rw [hown0] at hob'; cases hob'
      rw [hown id o hne] at hob
      exact absurd (i.own_lt ⟨id, o, hga, hob⟩) (Nat.lt_irrefl _)
    · rw [hown id o hne] at hob
      rw [hown id' o' hne'] at hob'
      exact i.inj id id' o o' b hga hga' hob hob'
  · intro b hb
    obtain ⟨id, o, hg, hob⟩ := hb
    rcases holds' id o hg with ⟨rfl, rfl⟩ | ⟨hne, hg⟩
    · rw [hown0] at hob; cases hob
      exact .inr (Nat.le_refl _)
    · rw [hown id o hne] at hob
      exact .inl ⟨id, o, hg, hob⟩
  · intro id hid
    have := hf id (by omega)
    simp only [View.addObj]
    rw [if_neg (by omega)]
    exact this

/-- An object told otherwise, the world as it is. -/
theorem Inv.reO (i : Inv F V h w) {id : Nat} {O O' : AObj} (hg : get h id = some O) (hO : ∀ s, O ≠ .tip s) (hO' : ∀ s, O' ≠ .tip s) (hrep : objRep F V w id O') : Inv F V (upd h id O') w ∧ (∀ b, Own V (upd h id O') b → Own V h b) := by
  have own1 : ∀ {o : AObj} {j : Nat}, (∀ s, o ≠ .tip s) → own V j o = V.obj j := fun {o j} ho => by
    cases o <;> first | rfl | exact absurd rfl (ho _)
  have free1 : ∀ {o : AObj} {j off : Nat}, (∀ s, o ≠ .tip s) → free V j off o := fun {o j off} ho => by
    cases o <;> first | trivial | exact absurd rfl (ho _)
  have hget : ∀ id' o, get (upd h id O') id' = some o → (id' = id ∧ o = O') ∨ (id' ≠ id ∧ get h id' = some o) := by
    intro id' o hg'
    rw [get_upd] at hg'
    split at hg'
    · rw [hg] at hg'; simp at hg'; exact .inl ⟨by assumption, hg'.symm⟩
    · exact .inr ⟨by assumption, hg'⟩
  refine ⟨⟨i.fixed, ?_, ?_, ?_⟩, ?_⟩
  · intro id' o hg'
    rcases hget id' o hg' with ⟨rfl, rfl⟩ | ⟨hne, hg'⟩
    · exact hrep
    · exact i.objs id' o hg'
  · intro id' o b off hg' hob hfr
    rcases hget id' o hg' with ⟨rfl, rfl⟩ | ⟨hne, hg'⟩
    · rw [own1 hO', ← own1 hO] at hob
      exact i.nofix id' O b off hg hob (free1 hO)
    · exact i.nofix id' o b off hg' hob hfr
  · intro id1 id2 o1 o2 b hg1 hg2 hb1 hb2
    rcases hget id1 o1 hg1 with ⟨rfl, rfl⟩ | ⟨hne1, hga1⟩ <;> rcases hget id2 o2 hg2 with ⟨rfl, rfl⟩ | ⟨hne2, hga2⟩
    · rfl
    · rw [own1 hO', ← own1 hO] at hb1; exact i.inj _ _ _ _ b hg hga2 hb1 hb2
    · rw [own1 hO', ← own1 hO] at hb2; exact i.inj _ _ _ _ b hga1 hg hb1 hb2
    · exact i.inj _ _ _ _ b hga1 hga2 hb1 hb2
  · rintro b ⟨id', o, hg', hb⟩
    rcases hget id' o hg' with ⟨rfl, rfl⟩ | ⟨hne, hg'⟩
    · rw [own1 hO', ← own1 hO] at hb; exact ⟨id', O, hg, hb⟩
    · exact ⟨id', o, hg', hb⟩

/-- A step that is the machine's alone. -/
theorem Step.own0 {h' : Heap} (hle : ∀ b, Own V h' b → Own V h b) : Step F V h w F V h' w :=
  ⟨.refl F, .refl V, fun b hb => .inl (hle b hb), fun _ _ _ k => .inl k, Nat.le_refl _, fun _ _ _ => rfl, rfl, rfl, rfl, Nat.le_refl _⟩

/-- The map's numbers. -/
theorem map_nums {id : Nat} {es : List (AV × AV)} (i : Inv F V h w) (hg : get h id = some (.map es)) : ∃ bs c, bs.length = es.length ∧ (∀ b ∈ bs, b < c) ∧ bs.Pairwise (· < ·) ∧ objRep F V w id (.mapN es bs c) := by
  obtain ⟨b, xs, c, hv, hh, h1, h2, h3, h4⟩ := i.objs id _ hg
  refine ⟨xs.toList.map (·.born), c, ?_, ?_, ?_, b, xs, c, hv, hh, h1, h2, h3, h4, rfl, rfl⟩
  · have := h1.length; simp only [List.length_map] at this ⊢; exact this.symm
  · intro n hn
    obtain ⟨e, he, rfl⟩ := List.mem_map.1 hn
    obtain ⟨j, hj⟩ := List.mem_iff_getElem?.1 he
    exact h3 j e (by simpa using hj)
  · rw [List.pairwise_iff_getElem]
    intro a c ha hc hac
    simp only [List.length_map] at ha hc
    simp only [List.getElem_map]
    exact h4 a c _ _ (by rw [← Array.getElem?_toList]; exact List.getElem?_eq_getElem ha) (by rw [← Array.getElem?_toList]; exact List.getElem?_eq_getElem hc) hac

theorem iterRep {id m b b2 since last : Nat} {seen : List Nat} (h1 : V.obj id = some b) (h2 : w.heap[b]? = some (.mapIter (some b2) since seen.reverse.toArray last)) (h3 : V.obj m = some b2) : objRep F V w id (.iter m since seen last) :=
  ⟨b, b2, (), h1, h2, h3⟩

/-- 'range m'. -/
theorem range_run {t kt et : TypeId} {id b nx : Nat} {es : List (AV × AV)} {bs : List Nat} {c : Nat} (i : Inv F V h w) (hf : fresh V nx) (hU : P.underlying t = some (.map kt et)) (hg : get h id = some (.mapN es bs c)) (hb : V.obj id = some b) :
    ∃ w' V', (Instr.range t (.map (some b))).run P w = .ok (.pointer (some ⟨w.heap.size, 0, none⟩)) w' ∧ V' = V.addObj nx w.heap.size ∧ Inv F V' ((nx, .iter id c [] c) :: h) w' ∧ Step F V h w F V' ((nx, .iter id c [] c) :: h) w' ∧ fresh V' (nx + 1) := by
  obtain ⟨b', xs, clock, hv, hh, h1, h2, h3, h4, h5, h6⟩ := i.objs id _ hg
  rw [hb] at hv; cases hv
  subst h6
  have hne : id ≠ nx := fun e => by have := (hf nx (Nat.le_refl _)).1; rw [← e, hb] at this; cases this
  obtain ⟨i2, s2, f2⟩ := i.newObj (ob := .iter id clock [] clock) (o := .mapIter (some b) clock #[] clock) hf (by simp [own, View.addObj]) (iterRep (b := w.heap.size) (b2 := b) (by simp [View.addObj]) (heap_new w _) (by simp only [View.addObj, if_neg hne]; exact hb))
  refine ⟨_, _, ?_, rfl, i2, s2, f2⟩
  unfold Instr.range
  simp [run_underlying hU, Go.MapKept.run_getObj_map hh]

theorem filter_nil_of {α : Type} {p : α → Bool} {l : List α} (h : ∀ x ∈ l, p x = false) : l.filter p = [] := List.filter_eq_nil_iff.2 fun x hx => by rw [h x hx]; decide

theorem Inv.heapEq (i : Inv F V h w) {w1 : World} (e : w1.heap = w.heap) : Inv F V h w1 :=
  ⟨fun b o x hx => by
    have := i.fixed b o x hx
    unfold World.cell? at this ⊢
    rw [e]; exact this, fun id o hg => (i.objs id o hg).keep fun b _ => by rw [e], i.nofix, i.inj⟩
theorem choose_run (w : World) {k : Nat} (hk : 0 < k) : ∃ (j : Nat) (w1 : World), (choose (.mapNext k)).run P w = .ok j w1 ∧ j < k ∧ w1.heap = w.heap ∧ w1.os = w.os ∧ w1.tape = w.tape ∧ w1.output = w.output ∧ w.drawn ≤ w1.drawn := by
  rw [run_choose]
  by_cases h : (Question.mapNext k).forced = true
  · rw [if_pos h]
    exact ⟨0, w, rfl, hk, rfl, rfl, rfl, rfl, Nat.le_refl _⟩
  · rw [if_neg h]
    exact ⟨_, _, rfl, Nat.mod_lt _ hk, rfl, rfl, rfl, rfl, Nat.le_succ _⟩

theorem run_getObj_any {w : World} {r : Nat} {m : Option Nat} {a c : Nat} {s : Array Nat} (hb : w.heap[r]? = some (.mapIter m a s c)) : (getObj r).run P w = .ok (.mapIter m a s c) w := by
  simp [getObj, Sem.run, hb]
theorem run_setObj_any {w : World} {r : Nat} {m : Option Nat} {a c : Nat} {s : Array Nat} (o' : Obj) (hb : w.heap[r]? = some (.mapIter m a s c)) : (setObj r o').run P w = .ok () { w with heap := w.heap.setIfInBounds r o' } := by
  simp [setObj, Sem.run, hb]

/-- A step: nothing is left, or an entry that has not come yet. -/
theorem next_run {ty : TypeId} {id m b since last : Nat} {seen : List Nat} {es : List (AV × AV)} {bs : List Nat} {c : Nat} (i : Inv F V h w) (hg : get h id = some (.iter m since seen last)) (hb : V.obj id = some b) (hm : get h m = some (.mapN es bs c))
    (hs : ∀ n ∈ bs, n < since) (hl : seen = [] ∨ es = [] ∨ ∃ n ∈ bs, n < last) :
    (∃ w', (Instr.next (.pointer (some ⟨b, 0, none⟩)) false ty).run P w = .ok (.tuple #[.bool false]) w' ∧ (∀ n ∈ bs, n ∈ seen) ∧ Inv F V h w' ∧ Step F V h w F V h w') ∨
    (∃ (w' : World) (j n : Nat) (kv : AV × AV) (kx vx : Value), bs[j]? = some n ∧ es[j]? = some kv ∧ n ∉ seen ∧ (Instr.next (.pointer (some ⟨b, 0, none⟩)) false ty).run P w = .ok (.tuple #[.bool true, kx, vx]) w' ∧ rep F V kv.1 kx ∧ rep F V kv.2 vx ∧
      Inv F V (upd h id (.iter m since (n :: seen) c)) w' ∧ Step F V h w F V (upd h id (.iter m since (n :: seen) c)) w') := by
  obtain ⟨b', b3, -, hv, hh, hmv⟩ := i.objs id _ hg
  rw [hb] at hv; cases hv
  obtain ⟨b4, xs, clock, hv4, hh4, h1, h2, h3, h4, h5, h6⟩ := i.objs m _ hm
  rw [hmv] at hv4; cases hv4
  subst h6
  have hlen := h1.length
  simp only [List.length_map, Array.length_toList] at hlen
  have hborn : ∀ e ∈ xs, e.born ∈ bs := fun e he => by
    rw [← h5]
    exact List.mem_map.2 ⟨e, by simpa using he, rfl⟩
  have hold : ∀ e ∈ xs, e.born < since := fun e he => hs _ (hborn e he)
  have hcond : (!seen.reverse.toArray.isEmpty && !xs.isEmpty && xs.all (fun e => decide (e.born ≥ last))) = false := by
    rcases hl with rfl | rfl | ⟨n, hn, hnl⟩
    · rfl
    · have : xs = #[] := Array.eq_empty_of_size_eq_zero (by rw [← hlen]; rfl)
      subst this
      simp
    · rw [← h5] at hn
      obtain ⟨e, he, rfl⟩ := List.mem_map.1 hn
      have : xs.all (fun e => decide (e.born ≥ last)) = false := by
        rw [← Bool.not_eq_true, Array.all_eq_true_iff_forall_mem]
        intro hall
        have := hall e (by simpa using he)
        simp only [decide_eq_true_eq] at this
        omega
      rw [this, Bool.and_false]
  let S := seen.reverse.toArray
  have hS : ∀ n : Nat, S.contains n = true ↔ n ∈ seen := fun n => by simp [S]
  let left := xs.filter fun e => !S.contains e.born
  have holdl : left.filter (fun e => decide (e.born < since)) = left := by
    rw [Array.filter_eq_self]
    intro e he
    have := (Array.mem_filter.1 he).1
    simpa using hold e this
  have hnewl : left.filter (fun e => decide (e.born ≥ since)) = #[] := by
    rw [Array.filter_eq_empty_iff]
    intro e he
    have := hold e (Array.mem_filter.1 he).1
    simp only [decide_eq_true_eq]
    omega
  by_cases hle : left = #[]
  · refine .inl ⟨w, ?_, ?_, i, .refl _ _ _ _⟩
    · unfold Instr.next
      simp only [Sem.run_bind, run_getObj_any hh, Result.andThen_ok, Go.MapKept.run_getObj_map hh4]
      rw [hcond]
      simp only [Bool.false_eq_true, if_false]
      have e1 : (xs.filter fun e => !seen.reverse.toArray.contains e.born) = left := rfl
      rw [e1, holdl, hnewl, hle]
      simp [Question.forced]
    · intro n hn
      rw [← h5] at hn
      obtain ⟨e, he, rfl⟩ := List.mem_map.1 hn
      rw [← hS]
      cases hc : S.contains e.born with
      | true => rfl
      | false =>
        have : e ∈ left := Array.mem_filter.2 ⟨by simpa using he, by rw [hc]; rfl⟩
        rw [hle] at this
        simp at this
  · have hlp : 0 < left.size := by
      rcases Nat.eq_zero_or_pos left.size with h0 | h0
      · exact absurd (Array.eq_empty_of_size_eq_zero h0) hle
      · exact h0
    obtain ⟨idx, w1, r1, r2, r3, r4, r5, r6, r7⟩ := choose_run (P := P) w (k := left.size) hlp
    obtain ⟨e, he⟩ : ∃ e, left[idx]? = some e := ⟨_, Array.getElem?_eq_getElem r2⟩
    have hmem : e ∈ left := Array.mem_of_getElem? he
    obtain ⟨hx, hns⟩ := Array.mem_filter.1 hmem
    obtain ⟨j, hj⟩ := Array.getElem?_of_mem hx
    have hjlt : j < xs.size := (Array.getElem?_eq_some_iff.1 hj).1
    have hnseen : e.born ∉ seen := fun hc => by
      rw [(hS e.born).2 hc] at hns
      simp at hns
    obtain ⟨kv, hkv⟩ : ∃ kv, es[j]? = some kv := ⟨_, List.getElem?_eq_getElem (by omega)⟩
    obtain ⟨kx, hkx, rk⟩ := h1.get j kv.1 (by simp [hkv])
    obtain ⟨vx, hvx, rv⟩ := h2.get j kv.2 (by simp [hkv])
    have ek : kx = e.key := by rw [List.getElem?_map, Array.getElem?_toList, hj] at hkx; simpa using hkx.symm
    have ev : vx = e.val := by rw [List.getElem?_map, Array.getElem?_toList, hj] at hvx; simpa using hvx.symm
    have i1 := i.heapEq r3
    have hso := i1.setO (O' := .iter m since (e.born :: seen) clock) (ob := .mapIter (some b3) since (S.push e.born) clock) hg (fun _ e => by cases e) (fun _ e => by cases e) hb (by rw [r3]; exact hh) fun w' hw' => iterRep hb (by rw [hw']; simp [S]) hmv
    refine .inr ⟨_, j, e.born, kv, kx, vx, ?_, hkv, hnseen, ?_, rk, rv, hso.1, ?_⟩
    · rw [← h5, List.getElem?_map, Array.getElem?_toList, hj]; rfl
    · unfold Instr.next
      simp only [Sem.run_bind, run_getObj_any hh, Result.andThen_ok, Go.MapKept.run_getObj_map hh4]
      rw [hcond]
      simp only [Bool.false_eq_true, if_false]
      have e1 : (xs.filter fun e => !seen.reverse.toArray.contains e.born) = left := rfl
      have hni : left.isEmpty = false := by
        cases hq : left.isEmpty with
        | false => rfl
        | true => exact absurd (Array.isEmpty_iff.1 hq) hle
      rw [e1, holdl, hnewl, hni]
      simp only [Bool.false_eq_true, if_false, Array.append_empty, Array.empty_append, Array.size_map]
      rw [Sem.run_bind, r1]
      simp only [Result.andThen_ok, Array.getElem?_map, he, Option.map_some, Sem.run_bind]
      rw [run_setObj_any _ (by rw [r3]; exact hh)]
      simp only [Result.andThen_ok, Sem.run_pure, ek, ev]
      rfl
    · obtain ⟨s1, s2, s3, s4, s5, s6, s7, s8, s9, s10⟩ := hso.2
      exact ⟨s1, s2, by rw [← r3]; exact s3, by rw [← r3]; exact s4, by rw [← r3]; exact s5, fun c hc hn => by rw [s6 c (by rw [r3]; exact hc) hn, r3], s7.trans r4, s8.trans r5, s9.trans r6, Nat.le_trans r7 s10⟩

theorem delB_eq {k : AV} : ∀ {es : List (AV × AV)} {bs : List Nat}, bs.length = es.length → delB es k bs = bs.eraseIdx (idxE es k)
  | [], [], _ => rfl
  | [], b :: bs, h => by simp at h
  | (a, x) :: es, [], h => by simp at h
  | (a, x) :: es, b :: bs, h => by
    simp only [delB, idxE]
    cases keyEq k a with
    | true => rfl
    | false => simp only [cond_false, List.eraseIdx_cons_succ]; rw [delB_eq (by simpa using h)]

theorem map_delN {bs : List Nat} {c : Nat} {t kt et ty : TypeId} {ts : Array TypeId} {id b : Nat} {es : List (AV × AV)} {k : AV} {kv : Value} (i : Inv F V h w) (hU : P.underlying t = some (.map kt et)) (ht : ts[0]? = some t) (hg : get h id = some (.mapN es bs c)) (hb : V.obj id = some b) (hm : mapAsk P kt es k) (rk : rep F V k kv) :
    ∃ w', (Builtin.delete_ ts ty #[.map (some b), kv]).run P w = .ok (.tuple #[]) w' ∧ Inv F V (upd h id (.mapN (delE es k) (delB es k bs) c)) w' ∧ Step F V h w F V (upd h id (.mapN (delE es k) (delB es k bs) c)) w' := by
  obtain ⟨b', xs, clock, hv, hh, h1, h2, h3, h4, h5, h6⟩ := i.objs id _ hg
  rw [hb] at hv; cases hv
  subst h6
  have hbl : bs.length = es.length := by rw [← h5]; have := h1.length; simp only [List.length_map] at this ⊢; exact this.symm
  have hc := checkKey_run (w := w) (em := xs.isEmpty) hm.2.1 rk
  have hf := findKey_run (w := w) hm rk h1
  rcases goE_find (k := k) (i := 0) h1 h2 with ⟨g1, g2, -, g3⟩ | ⟨j, a, v0, e, -, g2, g4, -, -, -, -, -, g8⟩
  · rw [g2] at hf
    have hso := i.setO (O' := .mapN (delE es k) (delB es k bs) clock) (ob := .map xs clock) hg (fun _ e => by cases e) (fun _ e => by cases e) hb hh fun w' hw' => by
      rw [g3]
      exact ⟨b, xs, clock, hb, hw', h1, h2, h3, h4, by rw [delB_eq hbl, idxE_none g1, List.eraseIdx_of_length_le (by omega)]; exact h5, rfl⟩
    refine ⟨_, ?_, hso⟩
    unfold Builtin.delete_
    simp [ht, run_underlying hU, Go.MapKept.run_getObj_map hh, hc, hf, Go.MapKept.run_setObj_map _ hh]
  · rw [g2] at hf
    have hjlt : j < xs.size := by
      have := (List.getElem?_eq_some_iff.1 (show xs.toList[j]? = some e by simpa using g4)).1
      simpa using this
    have hel : (xs.eraseIdxIfInBounds j).toList = xs.toList.eraseIdx j := by
      unfold Array.eraseIdxIfInBounds
      rw [dif_pos hjlt]
      exact Array.toList_eraseIdx ..
    have hso := i.setO (O' := .mapN (delE es k) (delB es k bs) clock) (ob := .map (xs.eraseIdxIfInBounds j) clock) hg (fun _ e => by cases e) (fun _ e => by cases e) hb hh fun w' hw' => by
      have hix : idxE es k = j := by have := goE_idx g2; omega
      rw [g8]
      have hme : ∀ {α β : Type} (f : α → β) (l : List α) (n : Nat), (l.eraseIdx n).map f = (l.map f).eraseIdx n := fun f l => by
        induction l with
        | nil => intro n; rfl
        | cons x l ih => intro n; cases n <;> simp_all
      have hre : ∀ {l : List AV} {vs : List Value}, repL F V l vs → ∀ n, repL F V (l.eraseIdx n) (vs.eraseIdx n) := fun {l} => by
        induction l with
        | nil => intro vs hl n; simp only [repL] at hl; subst hl; simp [repL]
        | cons x l ih =>
          intro vs hl n
          simp only [repL] at hl
          obtain ⟨y, ys, rfl, hy, hys⟩ := hl
          cases n with
          | zero => exact hys
          | succ n => exact ⟨y, _, rfl, hy, ih hys n⟩
      have hget : ∀ (m : Nat) (x : MapEntry), (xs.eraseIdxIfInBounds j)[m]? = some x → xs[if m < j then m else m + 1]? = some x := fun m x hx => by
        have hx : (xs.eraseIdxIfInBounds j).toList[m]? = some x := by rw [Array.getElem?_toList]; exact hx
        rw [hel, List.getElem?_eraseIdx] at hx
        split at hx <;> rename_i hlt
        · rw [if_pos hlt]; simpa using hx
        · rw [if_neg hlt]; simpa using hx
      refine ⟨b, _, clock, hb, hw', ?_, ?_, ?_, ?_, by rw [delB_eq hbl, hix, hel, hme, h5], rfl⟩
      · rw [hel, hme, hme]; exact hre h1 j
      · rw [hel, hme, hme]; exact hre h2 j
      · intro m x hx
        exact h3 _ x (hget m x hx)
      · intro m n x x' hx hx' hlt
        exact h4 _ _ x x' (hget m x hx) (hget n x' hx') (by split <;> split <;> omega)
    refine ⟨_, ?_, hso⟩
    unfold Builtin.delete_
    simp [ht, run_underlying hU, Go.MapKept.run_getObj_map hh, hc, hf, Go.MapKept.run_setObj_map _ hh]


/-- The entry that came last. -/
theorem entry_run {id m b since last j n : Nat} {seen : List Nat} {es : List (AV × AV)} {bs : List Nat} {kv : AV × AV} (i : Inv F V h w) (hg : get h id = some (.iter m since (n :: seen) last)) (hb : V.obj id = some b) (hm : get h m = some (.mapN es bs last))
    (hj : bs[j]? = some n) (he : es[j]? = some kv) : ∃ kx vx, (Instr.entry (.pointer (some ⟨b, 0, none⟩))).run P w = .ok (.tuple #[kx, vx]) w ∧ rep F V kv.1 kx ∧ rep F V kv.2 vx := by
  obtain ⟨b', b3, -, hv, hh, hmv⟩ := i.objs id _ hg
  rw [hb] at hv; cases hv
  obtain ⟨b4, xs, clock, hv4, hh4, h1, h2, h3, h4, h5, h6⟩ := i.objs m _ hm
  rw [hmv] at hv4; cases hv4
  subst h6
  obtain ⟨kx, hkx, rk⟩ := h1.get j kv.1 (by simp [he])
  obtain ⟨vx, hvx, rv⟩ := h2.get j kv.2 (by simp [he])
  rw [← h5, List.getElem?_map, Array.getElem?_toList] at hj
  rw [List.getElem?_map, Array.getElem?_toList] at hkx hvx
  obtain ⟨e, hje, hen⟩ := Option.map_eq_some_iff.1 hj
  rw [hje] at hkx hvx
  simp only [Option.map_some, Option.some.injEq] at hkx hvx
  have hjlt : j < xs.size := (Array.getElem?_eq_some_iff.1 hje).1
  have hxe := (Array.getElem?_eq_some_iff.1 hje).2
  have hfind : xs.find? (fun x => x.born == n) = some e := by
    rw [Array.find?_eq_some_iff_getElem]
    refine ⟨by simp [hen], j, hjlt, hxe, fun a ha => ?_⟩
    have := h4 a j _ e (Array.getElem?_eq_getElem (by omega)) hje ha
    simp only [Bool.not_eq_true', beq_eq_false_iff_ne]
    omega
  refine ⟨kx, vx, ?_, rk, rv⟩
  unfold Instr.entry
  simp only [Sem.run_bind, run_getObj_any hh, Result.andThen_ok]
  have hback : (n :: seen).reverse.toArray.back? = some n := by simp
  rw [hback]
  simp only [Sem.run_bind, Go.MapKept.run_getObj_map hh4, Result.andThen_ok, bne_self_eq_false, Bool.false_eq_true, if_false, hfind, Sem.run_pure]
  rw [← hkx, ← hvx]
end
end Go.Sym
