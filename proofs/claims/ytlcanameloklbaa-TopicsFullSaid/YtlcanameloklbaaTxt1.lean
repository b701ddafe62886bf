/-
  Names told anew; calls whose heap is told outright. No program here.
-/
import Derived.Test.YtlcanameloklbaaSym4
import Derived.Test.YtlcanameloklbaaProg
import Derived.Laws.Bits64
import Derived.Laws.BitsLemmas
set_option linter.unusedVariables false
set_option linter.unusedSimpArgs false
namespace Go.Sym

section
variable {nx : Nat} {names : List Nat}
/-- What a call leaves alone: what is not among its names; and what is no object of its heap. -/
def Kept (names : List Nat) (h0 : Heap) (j : Nat) (o : AObj) : Prop := idx j names = none ∨ ∃ i, idx j names = some i ∧ get h0 i = none ∧ ∀ s, o ≠ .tip s
def isTipO : Option AObj → Bool
  | some (.tip _) => true
  | _ => false
def isNo : Option AObj → Bool
  | none => true
  | some _ => false
def keepH2 (nx : Nat) (names : List Nat) (H hi h0 : Heap) : Heap → Heap
  | [] => []
  | (j, o) :: r => match idx j names with
    | some i => match get h0 i with
      | some o' => (j, renO (rho nx names) o') :: keepH2 nx names H hi h0 r
      | none => bif isNo (get hi i) && !isTipO (get H j) then (j, o) :: keepH2 nx names H hi h0 r else keepH2 nx names H hi h0 r
    | none => (j, o) :: keepH2 nx names H hi h0 r
def mergeH2 (nx : Nat) (names : List Nat) (h hi h0 : Heap) : Heap := newH nx names (keepH2 nx names h hi h0 h) h0
def KeptH (names : List Nat) (H hi : Heap) (j : Nat) : Prop := idx j names = none ∨ ∃ i, idx j names = some i ∧ (isNo (get hi i) && !isTipO (get H j)) = true
theorem get_keepH2 {H hi h0 : Heap} {j : Nat} {o : AObj} : ∀ {h : Heap}, get (keepH2 nx names H hi h0 h) j = some o →
    (∃ i o', idx j names = some i ∧ get h0 i = some o' ∧ o = renO (rho nx names) o') ∨ (KeptH names H hi j ∧ get h j = some o)
  | [], hg => by simp [keepH2, get] at hg
  | (j0, o0) :: r, hg => by
    unfold keepH2 at hg
    by_cases e : j0 = j
    · subst e
      cases hid : idx j0 names with
      | none =>
        rw [hid] at hg
        simp only [get_cons', if_true] at hg
        exact .inr ⟨.inl hid, by rw [get_cons']; simpa using hg⟩
      | some i =>
        rw [hid] at hg
        simp only at hg
        cases h0i : get h0 i with
        | none =>
          rw [h0i] at hg
          simp only at hg
          cases hc : (isNo (get hi i) && !isTipO (get H j0)) with
          | true =>
            rw [hc] at hg
            simp only [cond_true, get_cons', if_true, Option.some.injEq] at hg
            subst hg
            exact .inr ⟨.inr ⟨i, hid, hc⟩, by rw [get_cons']; simp⟩
          | false =>
            rw [hc] at hg
            simp only [cond_false] at hg
            rcases get_keepH2 hg with h | ⟨h1, h2⟩
            · rw [hid] at h; exact .inl h
            · rcases h1 with h1 | ⟨i', h1, h3⟩
              · rw [hid] at h1; cases h1
              · rw [hid] at h1; cases h1
                rw [hc] at h3; cases h3
        | some o' =>
          rw [h0i] at hg
          simp only [get_cons', if_true, Option.some.injEq] at hg
          exact .inl ⟨i, o', rfl, h0i, hg.symm⟩
    · have step : get (keepH2 nx names H hi h0 r) j = some o := by
        cases hid : idx j0 names with
        | none => rw [hid] at hg; simpa only [get_cons', if_neg e] using hg
        | some i =>
          rw [hid] at hg
          simp only at hg
          cases h0i : get h0 i with
          | none =>
            rw [h0i] at hg
            simp only at hg
            cases hc : (isNo (get hi i) && !isTipO (get H j0)) with
            | true => rw [hc] at hg; simpa only [cond_true, get_cons', if_neg e] using hg
            | false => rw [hc] at hg; exact hg
          | some o' => rw [h0i] at hg; simpa only [get_cons', if_neg e] using hg
      rcases get_keepH2 step with h | ⟨h1, h2⟩
      · exact .inl h
      · exact .inr ⟨h1, by rw [get_cons', if_neg e]; exact h2⟩
theorem KeptH.kept {h hi : Heap} {j : Nat} {o : AObj} (k : KeptH names h hi j) (hg : get h j = some o) : Kept names hi j o := by
  rcases k with k | ⟨i, k1, k2⟩
  · exact .inl k
  · rw [hg, Bool.and_eq_true] at k2
    refine .inr ⟨i, k1, ?_, fun s e => ?_⟩
    · cases hx : get hi i with
      | none => rfl
      | some x => rw [hx] at k2; simp [isNo] at k2
    · subst e; simp [isTipO] at k2

theorem frameTwo {P : Program} {f : FuncId} {args args0 : List AV} {h h0 : Heap} {K0 KK : AV → Heap → Nat → Prop} (c : CallOK P f args0 h0 names.length K0) (hok : okNames nx names = true)
    (hsub : Sub nx names h h0) (hargs : args = renL (rho nx names) args0)
    (hK : ∀ a0 h0' m', K0 a0 h0' m' → KK (ren (rho nx names) a0) (mergeH2 nx names h h0 h0') (nx + (m' - names.length))) : CallOK P f args h nx KK := by
  obtain ⟨c1, c2⟩ := c
  refine ⟨c1, fun F V w vs hi hfr hr => ?_⟩
  subst hargs
  let ρ := rho nx names
  have big : ∀ i, names.length ≤ i → nx ≤ ρ i := fun i hi => by have := (rho_big hok hi).1; show nx ≤ rho nx names i; omega
  have hi0 : Inv F (V.comap ρ) h0 w := by
    refine ⟨hi.fixed, fun id o hg => ?_, fun id o b off hg ho hf => ?_, fun id id' o o' b hg hg' ho ho' => ?_⟩
    · exact objRep_ren.1 (hi.objs _ _ (hsub.get id o hg).2)
    · exact hi.nofix _ _ b off (hsub.get id o hg).2 (by rw [own_ren]; exact ho) (free_ren.2 hf)
    · exact rho_inj hok (hi.inj _ _ _ _ b (hsub.get id o hg).2 (hsub.get id' o' hg').2 (by rw [own_ren]; exact ho) (by rw [own_ren]; exact ho'))
  have hfr0 : Go.Sym.fresh (V.comap ρ) names.length := fun i hi => hfr _ (big i hi)
  have own0 : ∀ b, Own (V.comap ρ) h0 b → Own V h b := by
    rintro b ⟨id, o, hg, ho⟩
    exact ⟨_, _, (hsub.get id o hg).2, by rw [own_ren]; exact ho⟩
  refine (c2 F (V.comap ρ) w vs hi0 hfr0 ((repL_ren _ _).1 hr)).mono ?_
  rintro e w' ⟨v, F', V0', a0, h0', m', rfl, hs, hi', hfr', hrep, hk⟩
  let V' : View := ⟨glue nx names V.obj V0'.obj, glue nx names V.tok V0'.tok⟩
  have hcm : V'.comap ρ = V0' := by
    show View.mk _ _ = V0'
    have e1 : (fun id => V'.obj (ρ id)) = V0'.obj := funext fun id => glue_rho hok _ _ id
    have e2 : (fun id => V'.tok (ρ id)) = V0'.tok := funext fun id => glue_rho hok _ _ id
    rw [e1, e2]
  have hVle : V.le V' := by
    refine ⟨fun id b hb => ?_, fun t x hx => ?_⟩
    · cases hidx : idx id names with
      | some i =>
        obtain ⟨r1, r2⟩ := rho_idx (nx := nx) hidx
        show glue nx names V.obj V0'.obj id = some b
        rw [← r1, glue_rho hok]
        exact hs.view.obj i b (by show V.obj (rho nx names i) = some b; rw [r1]; exact hb)
      | none =>
        have : id < nx := by
          rcases Nat.lt_or_ge id nx with h | h
          · exact h
          · rw [(hfr id h).1] at hb; cases hb
        show glue nx names V.obj V0'.obj id = some b
        rw [glue_old hidx this]; exact hb
    · cases hidx : idx t names with
      | some i =>
        obtain ⟨r1, r2⟩ := rho_idx (nx := nx) hidx
        obtain ⟨y, y1, y2, y3⟩ := hs.view.tok i x (by show V.tok (rho nx names i) = some x; rw [r1]; exact hx)
        refine ⟨y, ?_, y2, y3⟩
        show glue nx names V.tok V0'.tok t = some y
        rw [← r1, glue_rho hok]; exact y1
      | none =>
        have : t < nx := by
          rcases Nat.lt_or_ge t nx with h | h
          · exact h
          · rw [(hfr t h).2] at hx; cases hx
        refine ⟨x, ?_, Nat.le_refl _, fun _ => rfl⟩
        show glue nx names V.tok V0'.tok t = some x
        rw [glue_old hidx this]; exact hx
  -- an object of the frame
  have hblk : ∀ id o b, get h id = some o → own V id o = some b → b < w.heap.size := by
    intro id o b hg ho
    have := hi.objs id o hg
    have key : ∀ c, w.heap[b]? = some c → b < w.heap.size := fun c hc => (Array.getElem?_eq_some_iff.1 hc).1
    cases o with
    | cells l => obtain ⟨b', vs, e, h1, h2, _⟩ := this; simp only [own] at ho; rw [h1] at ho; cases ho; exact key _ h2
    | map es => obtain ⟨b', xs, c, h1, h2, _⟩ := this; simp only [own] at ho; rw [h1] at ho; cases ho; exact key _ h2
    | ment es mj ms => obtain ⟨b', xs, c, h1, h2, _⟩ := this; simp only [own] at ho; rw [h1] at ho; cases ho; exact key _ h2
    | mapN es nb nc => obtain ⟨b', xs, c, h1, h2, _⟩ := this; simp only [own] at ho; rw [h1] at ho; cases ho; exact key _ h2
    | iter im isn ise il => obtain ⟨b', xs, c, h1, h2, _⟩ := this; simp only [own] at ho; rw [h1] at ho; cases ho; exact key _ h2
    | loop en kk ps ags bo st => obtain ⟨b', r, h1, h2, _⟩ := this; simp only [own] at ho; rw [h1] at ho; cases ho; exact key _ h2
    | tip s =>
      obtain ⟨x, h1, h2, h3⟩ := this
      simp only [own, h1, Option.bind_some] at ho
      obtain ⟨vs, e, z, h4, _⟩ := h3 b ho
      exact key _ h4
  have frame_old : ∀ id o, idx id names = none → get h id = some o → V'.obj id = V.obj id ∧ V'.tok id = V.tok id := by
    intro id o hidx hg
    have hlt : id < nx := by
      rcases Nat.lt_or_ge id nx with h' | h'
      · exact h'
      · have := hi.objs id o hg
        have h0 := hfr id h'
        cases o with
        | cells l => obtain ⟨b', vs, e, h1, _⟩ := this; rw [h0.1] at h1; cases h1
        | map es => obtain ⟨b', xs, c, h1, _⟩ := this; rw [h0.1] at h1; cases h1
        | ment es mj ms => obtain ⟨b', xs, c, h1, _⟩ := this; rw [h0.1] at h1; cases h1
        | mapN es nb nc => obtain ⟨b', xs, c, h1, _⟩ := this; rw [h0.1] at h1; cases h1
        | iter im isn ise il => obtain ⟨b', xs, c, h1, _⟩ := this; rw [h0.1] at h1; cases h1
        | loop en kk ps ags bo st => obtain ⟨b', r, h1, _⟩ := this; rw [h0.1] at h1; cases h1
        | tip s => obtain ⟨x, h1, _⟩ := this; rw [h0.2] at h1; cases h1
    exact ⟨glue_old hidx hlt, glue_old hidx hlt⟩
  have has_obj : ∀ id o, (∀ s, o ≠ .tip s) → get h id = some o → ∃ b, V.obj id = some b := by
    intro id o ho hg
    have := hi.objs id o hg
    cases o with
    | cells l => obtain ⟨b', vs, e, h1, _⟩ := this; exact ⟨_, h1⟩
    | map es => obtain ⟨b', xs, c, h1, _⟩ := this; exact ⟨_, h1⟩
    | ment es mj ms => obtain ⟨b', xs, c, h1, _⟩ := this; exact ⟨_, h1⟩
    | mapN es nb nc => obtain ⟨b', xs, c, h1, _⟩ := this; exact ⟨_, h1⟩
    | iter im isn ise il => obtain ⟨b', xs, c, h1, _⟩ := this; exact ⟨_, h1⟩
    | loop en kk ps ags bo st => obtain ⟨b', r, h1, _⟩ := this; exact ⟨_, h1⟩
    | tip s => exact absurd rfl (ho s)
  have frame_obj : ∀ id o, Kept names h0 id o → get h id = some o → V'.obj id = V.obj id ∧ ((∃ s, o = .tip s) → V'.tok id = V.tok id) := by
    intro id o hk hg
    rcases hk with hk | ⟨i, k1, k2, k3⟩
    · exact ⟨(frame_old id o hk hg).1, fun _ => (frame_old id o hk hg).2⟩
    · obtain ⟨b, hb⟩ := has_obj id o k3 hg
      exact ⟨by rw [hb]; exact hVle.obj id b hb, fun ⟨s, e⟩ => absurd e (k3 s)⟩
  have frame_own : ∀ id o, Kept names h0 id o → get h id = some o → own V' id o = own V id o := by
    intro id o hk hg
    obtain ⟨e1, e2⟩ := frame_obj id o hk hg
    cases o with
    | tip s => simp only [own, e2 ⟨s, rfl⟩]
    | cells l => simp only [own, e1]
    | map es => simp only [own, e1]
    | ment es mj ms => simp only [own, e1]
    | mapN es nb nc => simp only [own, e1]
    | iter im isn ise il => simp only [own, e1]
    | loop en kk ps ags bo st => simp only [own, e1]
  have frame_no : ∀ id o b, Kept names h0 id o → get h id = some o → own V id o = some b → ¬ Own (V.comap ρ) h0 b := by
    rintro id o b hidx hg ho ⟨i, o0, hg0, ho0⟩
    obtain ⟨q1, q2⟩ := hsub.get i o0 hg0
    have := hi.inj _ _ _ _ b hg q2 ho (by rw [own_ren]; exact ho0)
    subst this
    rcases hidx with hidx | ⟨i', k1, k2, -⟩
    · exact idx_none.1 hidx (rho_mem nx names i q1)
    · have e := idx_rho (nx := nx) hok i q1
      rw [e] at k1
      cases k1
      rw [hg0] at k2; cases k2
  have frame_cell : ∀ id o b, Kept names h0 id o → get h id = some o → own V id o = some b → w'.heap[b]? = w.heap[b]? := fun id o b hidx hg ho =>
    hs.touch b (hblk id o b hg ho) (frame_no id o b hidx hg ho)
  have cases' : ∀ {j o}, get (mergeH2 nx names h h0 h0') j = some o → (∃ i o', j = ρ i ∧ get h0' i = some o' ∧ o = renO ρ o') ∨ (Kept names h0 j o ∧ get h j = some o) := by
    intro j o hg
    rcases get_newH hg with ⟨i, o', h1, h2, h3, h4⟩ | hg
    · exact .inl ⟨i, o', h2, h3, h4⟩
    · rcases get_keepH2 hg with ⟨i, o', h1, h2, h3⟩ | h1
      · exact .inl ⟨i, o', (rho_idx h1).1.symm, h2, h3⟩
      · exact .inr ⟨h1.1.kept h1.2, h1.2⟩
  have ownV' : ∀ i o', own V' (ρ i) (renO ρ o') = own V0' i o' := fun i o' => by rw [own_ren, hcm]
  refine ⟨v, F', V', ren ρ a0, mergeH2 nx names h h0 h0', nx + (m' - names.length), rfl, ?_, ?_, ?_, (rep_ren _ _).2 (by rw [hcm]; exact hrep), hK a0 h0' m' hk⟩
  · refine ⟨hs.fix, hVle, ?_, ?_, hs.size, fun b hb hno => hs.touch b hb fun h => hno (own0 b h), hs.os, hs.tape, hs.output, hs.drawn⟩
    · rintro b ⟨j, o, hg, ho⟩
      rcases cases' hg with ⟨i, o', rfl, h2, rfl⟩ | ⟨h1, h2⟩
      · rw [ownV'] at ho
        exact (hs.own b ⟨i, o', h2, ho⟩).imp (own0 b) id
      · rw [frame_own j o h1 h2] at ho
        exact .inl ⟨j, o, h2, ho⟩
    · intro b o x hx
      rcases hs.newfix b o x hx with h | h | h
      · exact .inl h
      · exact .inr (.inl (own0 b h))
      · exact .inr (.inr h)
  · refine ⟨hi'.fixed, fun j o hg => ?_, fun j o b off hg ho hf => ?_, fun j j' o o' b hg hg' ho ho' => ?_⟩
    · rcases cases' hg with ⟨i, o', rfl, h2, rfl⟩ | ⟨h1, h2⟩
      · exact objRep_ren.2 (by rw [hcm]; exact hi'.objs i o' h2)
      · have hobj := hi.objs j o h2
        obtain ⟨v1, v2⟩ := frame_obj j o h1 h2
        cases o with
        | cells l =>
          obtain ⟨b, vs, e, q1, q2, q3, q4⟩ := hobj
          exact ⟨b, vs, e, by rw [v1]; exact q1, by rw [frame_cell j _ b h1 h2 q1]; exact q2, q3.mono hs.fix hVle, q4⟩
        | tip s =>
          obtain ⟨x, q1, q2, q3⟩ := hobj
          refine ⟨x, by rw [v2 ⟨s, rfl⟩]; exact q1, q2, fun b hb => ?_⟩
          rw [frame_cell j (.tip s) b h1 h2 (by simp only [own, q1, Option.bind_some]; exact hb)]
          exact q3 b hb
        | map es =>
          obtain ⟨b, xs, clock, q1, q2, q3, q4, q5⟩ := hobj
          exact ⟨b, xs, clock, by rw [v1]; exact q1, by rw [frame_cell j _ b h1 h2 q1]; exact q2, q3.mono hs.fix hVle, q4.mono hs.fix hVle, q5⟩
        | ment es mj ms =>
          obtain ⟨b, xs, clock, q1, q2, q3, q4, q5⟩ := hobj
          exact ⟨b, xs, clock, by rw [v1]; exact q1, by rw [frame_cell j _ b h1 h2 q1]; exact q2, q3.mono hs.fix hVle, q4.mono hs.fix hVle, q5⟩
        | mapN es nb nc =>
          obtain ⟨b, xs, clock, q1, q2, q3, q4, q5⟩ := hobj
          exact ⟨b, xs, clock, by rw [v1]; exact q1, by rw [frame_cell j _ b h1 h2 q1]; exact q2, q3.mono hs.fix hVle, q4.mono hs.fix hVle, q5⟩
        | iter im isn ise il =>
          obtain ⟨b, xs, clock, q1, q2, q3⟩ := hobj
          exact ⟨b, xs, clock, by rw [v1]; exact q1, by rw [frame_cell j _ b h1 h2 q1]; exact q2, hVle.obj _ _ q3⟩
        | loop en kk ps ags bo st =>
          obtain ⟨b, r, q1, q2, q3, q4, q5, q6, q7, q8⟩ := hobj
          exact ⟨b, r, by rw [v1]; exact q1, by rw [frame_cell j _ b h1 h2 q1]; exact q2, q3, q4, q5, q6, fun t => rep.mono hs.fix hVle _ _ (q7 t), q8⟩
    · rcases cases' hg with ⟨i, o', rfl, h2, rfl⟩ | ⟨h1, h2⟩
      · rw [ownV'] at ho
        exact hi'.nofix i o' b off h2 ho (by rw [← hcm]; exact free_ren.1 hf)
      · rw [frame_own j o h1 h2] at ho
        have hf' : free V j off o := by
          cases o with
          | tip s => simpa only [free, (frame_obj j _ h1 h2).2 ⟨s, rfl⟩] using hf
          | _ => trivial
        have := hi.nofix j o b off h2 ho hf'
        cases hx : F' b off with
        | none => rfl
        | some x =>
          rcases hs.newfix b off x hx with h | h | h
          · rw [this] at h; cases h
          · exact absurd h (frame_no j o b h1 h2 ho)
          · have := hblk j o b h2 ho; omega
    · have mixed : ∀ {j o j' o'}, (∃ i o0, j = ρ i ∧ get h0' i = some o0 ∧ o = renO ρ o0) → (Kept names h0 j' o' ∧ get h j' = some o') → own V' j o = some b → own V' j' o' = some b → False := by
        rintro j o j' o' ⟨i, o0, rfl, h2, rfl⟩ ⟨h3, h4⟩ ho ho'
        rw [ownV'] at ho
        rw [frame_own j' o' h3 h4] at ho'
        rcases hs.own b ⟨i, o0, h2, ho⟩ with h | h
        · exact frame_no j' o' b h3 h4 ho' h
        · have := hblk j' o' b h4 ho'; omega
      rcases cases' hg with hA | hA <;> rcases cases' hg' with hB | hB
      · obtain ⟨i, o0, rfl, h2, rfl⟩ := hA
        obtain ⟨i', o0', rfl, h2', rfl⟩ := hB
        rw [ownV'] at ho ho'
        rw [hi'.inj i i' o0 o0' b h2 h2' ho ho']
      · exact (mixed hA hB ho ho').elim
      · exact (mixed hB hA ho' ho).elim
      · obtain ⟨h1, h2⟩ := hA
        obtain ⟨h1', h2'⟩ := hB
        rw [frame_own j o h1 h2] at ho
        rw [frame_own j' o' h1' h2'] at ho'
        exact hi.inj j j' o o' b h2 h2' ho ho'
  · intro j hj
    have hge : nx ≤ j := by omega
    have hidx : idx j names = none := idx_none.2 fun hm => by have := okNames_lt hok _ hm; omega
    have e : ∀ {α : Type} (f g : Nat → Option α), glue nx names f g j = g (names.length + (j - nx)) := fun f g => by
      unfold glue; rw [hidx]; simp only [hge, if_true]
    obtain ⟨q1, q2⟩ := hfr' (names.length + (j - nx)) (by omega)
    exact ⟨by show glue nx names V.obj V0'.obj j = none; rw [e]; exact q1, by show glue nx names V.tok V0'.tok j = none; rw [e]; exact q2⟩

end

section
variable {P : Program} {Q : AExit → St → Prop} {K : AV → Heap → Nat → Prop}

theorem need_in {p : Prop} {r : R} (hp : p) (hr : holds P Q K r) : holds P Q K (.need p r) := ⟨hp, hr⟩
theorem nth_in {els : List AV} {i : Int} {k : AV → R} (e : AV) (h : 0 ≤ i ∧ els[i.toNat]? = some e) (hk : holds P Q K (k e)) : holds P Q K (.nth els i k) := ⟨e, h, hk⟩
theorem br_in {b : Bool} {t e : Unit → R} (h1 : b = true → holds P Q K (t ())) (h2 : b = false → holds P Q K (e ())) : holds P Q K (.br b t e) := ⟨h1, h2⟩
theorem br_no {b : Bool} {t e : Unit → R} (h : b = false) (h2 : holds P Q K (e ())) : holds P Q K (.br b t e) := ⟨fun h' => (by rw [h] at h'; cases h'), fun _ => h2⟩
theorem br_yes {b : Bool} {t e : Unit → R} (h : b = true) (h1 : holds P Q K (t ())) : holds P Q K (.br b t e) := ⟨fun _ => h1, fun h' => (by rw [h] at h'; cases h')⟩
/-- A heap under other names. -/
def renH (ρ : Nat → Nat) : Heap → Heap
  | [] => []
  | (id, o) :: r => (ρ id, renO ρ o) :: renH ρ r
theorem get_renH {ρ : Nat → Nat} (hi : ∀ i j, ρ i = ρ j → i = j) (id : Nat) (o : AObj) : ∀ h : Heap, get h id = some o → get (renH ρ h) (ρ id) = some (renO ρ o)
  | [], hg => by simp [get] at hg
  | (j, x) :: r, hg => by
    rw [get_cons'] at hg
    show get ((ρ j, renO ρ x) :: renH ρ r) (ρ id) = _
    rw [get_cons']
    by_cases e : j = id
    · subst e
      simp only [if_true, Option.some.injEq] at hg ⊢
      rw [hg]
    · rw [if_neg e] at hg
      rw [if_neg fun e' => e (hi _ _ e')]
      exact get_renH hi id o r hg

/-- The first n names are as they were. -/
def lowB : Nat → Nat → List Nat → Bool
  | _, 0, _ => true
  | s, n + 1, x :: r => Nat.beq x s && lowB (s + 1) n r
  | _, _ + 1, [] => false
theorem lowB_len : ∀ {n s : Nat} {names : List Nat}, lowB s n names = true → n ≤ names.length
  | 0, _, _, _ => Nat.zero_le _
  | n + 1, s, x :: r, h => by
    simp only [lowB, Bool.and_eq_true] at h
    have := lowB_len h.2
    simp only [List.length_cons]
    omega
  | n + 1, s, [], h => by simp [lowB] at h
theorem lowB_rho {nx : Nat} : ∀ {n s : Nat} {names : List Nat}, lowB s n names = true → ∀ i, i < n → rho nx names i = s + i
  | 0, _, _, _, i, hi => absurd hi (Nat.not_lt_zero _)
  | n + 1, s, x :: r, h, 0, _ => by
    simp only [lowB, Bool.and_eq_true] at h
    have := Nat.eq_of_beq_eq_true h.1
    simp only [rho, Nat.add_zero]
    exact this
  | n + 1, s, x :: r, h, i + 1, hi => by
    simp only [lowB, Bool.and_eq_true] at h
    simp only [rho]
    rw [lowB_rho h.2 i (by omega)]
    omega
  | n + 1, s, [], h, _, _ => by simp [lowB] at h

/-- Names told anew: a list of them. -/
theorem Gh.rho {n : Nat} {names : List Nat} {f f' : Nat → AV} {h h' : Heap} {nx : Nat} (hok : okNames nx names = true) (hlow : lowB 0 n names = true) (hf : ∀ t, ren (Sym.rho nx names) (f' t) = f t)
    (hh : ∀ id o, get h' id = some o → get h (Sym.rho nx names id) = some (renO (Sym.rho nx names) o)) : Gh n f h nx f' h' names.length := by
  intro hn
  have hl : ∀ i, i < n → Sym.rho nx names i = i := fun i hi => by rw [lowB_rho hlow i hi, Nat.zero_add]
  refine ⟨lowB_len hlow, fun F V w ρ i hfr r => ?_⟩
  refine ⟨F, V.comap (Sym.rho nx names), .refl F, ⟨fun id b hlt hb => ?_, fun t x hlt hx => ?_⟩, ?_, fun _ _ _ h => .inl h, ⟨i.fixed, ?_, ?_, ?_⟩, ?_, fun t => (rep_ren _ _).1 (by rw [hf]; exact r t)⟩
  · show V.obj (Sym.rho nx names id) = some b
    rw [hl id hlt]; exact hb
  · refine ⟨x, ?_, Nat.le_refl _, fun _ => rfl⟩
    show V.tok (Sym.rho nx names t) = some x
    rw [hl t hlt]; exact hx
  · rintro b ⟨id, o, hg, ho⟩
    exact ⟨_, _, hh id o hg, by rw [own_ren]; exact ho⟩
  · intro id o hg
    exact objRep_ren.1 (i.objs _ _ (hh id o hg))
  · intro id o b off hg ho hfree
    exact i.nofix _ _ b off (hh id o hg) (by rw [own_ren]; exact ho) (free_ren.2 hfree)
  · intro id id' o o' b hg hg' ho ho'
    exact rho_inj hok (i.inj _ _ _ _ b (hh id o hg) (hh id' o' hg') (by rw [own_ren]; exact ho) (by rw [own_ren]; exact ho'))
  · intro id hid
    have e := (rho_big hok hid).1
    have := hfr (nx + (id - names.length)) (by omega)
    rw [← e] at this
    exact this

/-- A loop's next state, names told anew. -/
theorem WkG.rho {n : Nat} (names : List Nat) {env env' : List (Nat × AV)} {h h' : Heap} {nx : Nat} {sz : Sz} (hn : Nat.ble n nx = true) (hok : okNames nx names = true) (hlow : lowB 0 n names = true) (he : EnvLe h env (renV (Sym.rho nx names) env')) (hh : HeapLe h (renH (Sym.rho nx names) h')) :
    WkG n ⟨env, h, nx, sz⟩ ⟨env', h', names.length, sz⟩ :=
  ⟨Nat.le_of_ble_eq_true hn, rfl, (Gh.le (f' := look (renV (Sym.rho nx names) env')) (h' := renH (Sym.rho nx names) h') he.le hh.le).trans (Gh.rho hok hlow (fun t => (look_renV _ _ _).symm) (fun id o hg => get_renH (fun _ _ => rho_inj hok) id o _ hg))⟩

/-- An answer that may be told so, names told anew. -/
def Fit2 (nx m1 : Nat) (a' : AV) (h1 : Heap) : AV → Heap → Nat → Prop := fun a h m =>
  ∃ names : List Nat, names.length = m1 ∧ (Nat.ble nx m && (okNames m names && lowB 0 nx names)) = true ∧ Le h a (ren (rho m names) a') ∧ HeapLe h (renH (rho m names) h1)
theorem Fit2.gh {nx m1 : Nat} {a' : AV} {h1 : Heap} {a : AV} {h : Heap} {m : Nat} (f : Fit2 nx m1 a' h1 a h m) : nx ≤ m ∧ Gh nx (fun _ => a) h m (fun _ => a') h1 m1 := by
  obtain ⟨names, rfl, hb, ha, hh⟩ := f
  simp only [Bool.and_eq_true] at hb
  obtain ⟨h1', h2, h3⟩ := hb
  exact ⟨Nat.le_of_ble_eq_true h1', (Gh.le (f' := fun _ => ren (rho m names) a') (h' := renH (rho m names) h1) (fun _ => ha) hh.le).trans (Gh.rho h2 h3 (fun _ => rfl) (fun id o hg => get_renH (fun _ _ => rho_inj h2) id o _ hg))⟩
theorem CallOK.fit2 {f : FuncId} {args : List AV} {h : Heap} {nx : Nat} {a' : AV} {h1 : Heap} {m1 : Nat} (c : CallOK P f args h nx (Fit2 nx m1 a' h1)) : CallOK P f args h nx (Out a' h1 m1) :=
  c.ghost fun _ _ _ k => ⟨a', h1, m1, k.gh.1, k.gh.2, rfl, rfl, rfl⟩
theorem CallOK.fit2E {ι : Type} {C : ι → Prop} {f : FuncId} {args : List AV} {h : Heap} {nx : Nat} {a' : ι → AV} {h1 : ι → Heap} {m1 : ι → Nat} (c : CallOK P f args h nx (fun a h m => ∃ x, C x ∧ Fit2 nx (m1 x) (a' x) (h1 x) a h m)) :
    CallOK P f args h nx (fun a h m => ∃ x, C x ∧ Out (a' x) (h1 x) (m1 x) a h m) :=
  c.ghost fun _ _ _ ⟨x, hx, k⟩ => ⟨a' x, h1 x, m1 x, k.gh.1, k.gh.2, x, hx, rfl, rfl, rfl⟩

/-- An object without names, told outright. -/
theorem LeO.cl {h : Heap} {o : AObj} {ρ : Nat → Nat} (c : ClO o) : LeO h (renO ρ o) o := by rw [c ρ]; exact LeO.refl _ _
theorem LeO.lc {h : Heap} {o : AObj} {ρ : Nat → Nat} (c : ClO o) : LeO h o (renO ρ o) := by rw [c ρ]; exact LeO.refl _ _
theorem Le.cl {h : Heap} {a : AV} {ρ : Nat → Nat} (c : Cl a) : Le h (ren ρ a) a := by rw [c ρ]; exact Le.refl _ _
theorem Le.lc {h : Heap} {a : AV} {ρ : Nat → Nat} (c : Cl a) : Le h a (ren ρ a) := by rw [c ρ]; exact Le.refl _ _

/-- A call, its answer and the heap behind it told outright. -/
theorem callG {f : FuncId} {args args0 : List AV} {h h0 : Heap} {nx : Nat} {k : AV → Heap → Nat → R} {a1 : AV} {h1 : Heap} {m1 : Nat} (names : List Nat) (a' : AV) (E : Heap) (c : CallOK P f args0 h0 names.length (Out a1 h1 m1)) (hok : okNames nx names = true) (hsub : Sub nx names h h0) (hargs : args = renL (rho nx names) args0)
    (ha : Le (mergeH nx names h h1) (ren (rho nx names) a1) a') (hE : HeapLe (mergeH nx names h h1) E) (hk : holds P Q K (k a' E (nx + (m1 - names.length)))) : holds P Q K (.call f args h nx k) :=
  CallOK.ghost (CallOK.frame (KK := Out (ren (rho nx names) a1) (mergeH nx names h h1) (nx + (m1 - names.length))) c hok hsub hargs (fun a0 h0' m' ⟨e1, e2, e3⟩ => by subst e1; subst e2; subst e3; exact ⟨rfl, rfl, rfl⟩))
    fun a h' nx' ⟨e1, e2, e3⟩ => by
      subst e1; subst e2; subst e3
      exact ⟨a', E, _, Nat.le_add_right _ _, Gh.le (fun _ => ha) hE.le, hk⟩
theorem callGE {ι : Type} {C : ι → Prop} {f : FuncId} {args args0 : List AV} {h h0 : Heap} {nx : Nat} {k : AV → Heap → Nat → R} {a1 : ι → AV} {h1 : ι → Heap} {m1 : ι → Nat} (names : List Nat) (a' : ι → AV) (E : ι → Heap) (c : CallOK P f args0 h0 names.length (fun a h m => ∃ x, C x ∧ Out (a1 x) (h1 x) (m1 x) a h m)) (hok : okNames nx names = true) (hsub : Sub nx names h h0) (hargs : args = renL (rho nx names) args0)
    (ha : ∀ x, C x → Le (mergeH nx names h (h1 x)) (ren (rho nx names) (a1 x)) (a' x)) (hE : ∀ x, C x → HeapLe (mergeH nx names h (h1 x)) (E x)) (hk : ∀ x, C x → holds P Q K (k (a' x) (E x) (nx + (m1 x - names.length)))) : holds P Q K (.call f args h nx k) :=
  CallOK.ghost (CallOK.frame (KK := fun a h' n => ∃ x, C x ∧ Out (ren (rho nx names) (a1 x)) (mergeH nx names h (h1 x)) (nx + (m1 x - names.length)) a h' n) c hok hsub hargs (fun a0 h0' m' ⟨x, hx, e1, e2, e3⟩ => by subst e1; subst e2; subst e3; exact ⟨x, hx, rfl, rfl, rfl⟩))
    fun a h' nx' ⟨x, hx, e1, e2, e3⟩ => by
      subst e1; subst e2; subst e3
      exact ⟨a' x, E x, _, Nat.le_add_right _ _, Gh.le (fun _ => ha x hx) (hE x hx).le, hk x hx⟩
/-- A call, its answer and the heap behind it told outright. -/
theorem callG2 {f : FuncId} {args args0 : List AV} {h h0 : Heap} {nx : Nat} {k : AV → Heap → Nat → R} {a1 : AV} {h1 : Heap} {m1 : Nat} (names : List Nat) (a' : AV) (E : Heap) (c : CallOK P f args0 h0 names.length (Out a1 h1 m1)) (hok : okNames nx names = true) (hsub : Sub nx names h h0) (hargs : args = renL (rho nx names) args0)
    (ha : Le (mergeH2 nx names h h0 h1) (ren (rho nx names) a1) a') (hE : HeapLe (mergeH2 nx names h h0 h1) E) (hk : holds P Q K (k a' E (nx + (m1 - names.length)))) : holds P Q K (.call f args h nx k) :=
  CallOK.ghost (frameTwo (KK := Out (ren (rho nx names) a1) (mergeH2 nx names h h0 h1) (nx + (m1 - names.length))) c hok hsub hargs (fun a0 h0' m' ⟨e1, e2, e3⟩ => by subst e1; subst e2; subst e3; exact ⟨rfl, rfl, rfl⟩))
    fun a h' nx' ⟨e1, e2, e3⟩ => by
      subst e1; subst e2; subst e3
      exact ⟨a', E, _, Nat.le_add_right _ _, Gh.le (fun _ => ha) hE.le, hk⟩
theorem callGE2 {ι : Type} {C : ι → Prop} {f : FuncId} {args args0 : List AV} {h h0 : Heap} {nx : Nat} {k : AV → Heap → Nat → R} {a1 : ι → AV} {h1 : ι → Heap} {m1 : ι → Nat} (names : List Nat) (a' : ι → AV) (E : ι → Heap) (c : CallOK P f args0 h0 names.length (fun a h m => ∃ x, C x ∧ Out (a1 x) (h1 x) (m1 x) a h m)) (hok : okNames nx names = true) (hsub : Sub nx names h h0) (hargs : args = renL (rho nx names) args0)
    (ha : ∀ x, C x → Le (mergeH2 nx names h h0 (h1 x)) (ren (rho nx names) (a1 x)) (a' x)) (hE : ∀ x, C x → HeapLe (mergeH2 nx names h h0 (h1 x)) (E x)) (hk : ∀ x, C x → holds P Q K (k (a' x) (E x) (nx + (m1 x - names.length)))) : holds P Q K (.call f args h nx k) :=
  CallOK.ghost (frameTwo (KK := fun a h' n => ∃ x, C x ∧ Out (ren (rho nx names) (a1 x)) (mergeH2 nx names h h0 (h1 x)) (nx + (m1 x - names.length)) a h' n) c hok hsub hargs (fun a0 h0' m' ⟨x, hx, e1, e2, e3⟩ => by subst e1; subst e2; subst e3; exact ⟨x, hx, rfl, rfl, rfl⟩))
    fun a h' nx' ⟨x, hx, e1, e2, e3⟩ => by
      subst e1; subst e2; subst e3
      exact ⟨a' x, E x, _, Nat.le_add_right _ _, Gh.le (fun _ => ha x hx) (hE x hx).le, hk x hx⟩
end
end Go.Sym

namespace Go.Proofs.Ytlcanameloklbaa
set_option maxRecDepth 100000
set_option maxHeartbeats 80000000
open Go.Sym

def I64 (n : Int) : Prop := -9223372036854775808 ≤ n ∧ n ≤ 9223372036854775807

/-- A number without a sign. -/
def zig (n : Int) : Nat := if n < 0 then (-2 * n - 1).toNat else (2 * n).toNat

theorem zig_lt {n : Int} (h : I64 n) : zig n < 18446744073709551616 := by unfold zig; unfold I64 at h; split <;> omega

theorem zig_neg {n : Int} (h : I64 n) (hn : n < 0) : IntKind.u64.wrap (IntKind.u64.wrap (2 * IntKind.u64.wrap (IntKind.i64.wrap (0 - IntKind.i64.wrap (n + 1)))) + 1) = zig n := by
  unfold zig; unfold I64 at h
  simp only [IntKind.wrap_u64, IntKind.wrap_i64, hn, if_true]
  omega
theorem zig_pos {n : Int} (h : I64 n) (hn : ¬ n < 0) : IntKind.u64.wrap (2 * IntKind.u64.wrap n) = zig n := by
  unfold zig; unfold I64 at h
  simp only [IntKind.wrap_u64, hn, if_false]
  omega

theorem xor_ones (x : Nat) (h : x < 18446744073709551616) : (BitVec.ofNat 64 x ^^^ BitVec.ofNat 64 18446744073709551615).toNat = 18446744073709551615 - x := by
  have : BitVec.ofNat 64 18446744073709551615 = BitVec.allOnes 64 := by decide
  rw [this, BitVec.xor_allOnes, BitVec.toNat_not]
  simp; omega

theorem ofInt_nat (w : Nat) (n : Nat) : BitVec.ofInt w (n : Int) = BitVec.ofNat w n := by simp

theorem zig_bits {n : Int} (h : I64 n) : IntKind.u64.wrap (BitVec.ofInt IntKind.u64.bits (IntKind.u64.wrap (IntKind.u64.wrap n * 2 ^ (min (1 : Int).toNat IntKind.u64.bits))) ^^^ BitVec.ofInt IntKind.u64.bits (IntKind.u64.wrap (n.fdiv (2 ^ (min (63 : Int).toNat IntKind.i64.bits))))).toNat = zig n := by
  unfold I64 at h
  have e1 : (2 : Int) ^ (min (1 : Int).toNat IntKind.u64.bits) = 2 := by decide
  have e2 : (2 : Int) ^ (min (63 : Int).toNat IntKind.i64.bits) = 9223372036854775808 := by decide
  have e3 : IntKind.u64.bits = 64 := rfl
  rw [e1, e2, e3, Int.fdiv_eq_ediv_of_nonneg _ (by omega)]
  unfold zig
  by_cases hn : n < 0
  · have d : n / 9223372036854775808 = -1 := by omega
    rw [d]
    have w1 : IntKind.u64.wrap (-1) = ((18446744073709551615 : Nat) : Int) := by simp [IntKind.wrap_u64]
    obtain ⟨m, hm⟩ : ∃ m : Nat, IntKind.u64.wrap (IntKind.u64.wrap n * 2) = (m : Int) := ⟨(IntKind.u64.wrap (IntKind.u64.wrap n * 2)).toNat, by simp only [IntKind.wrap_u64]; omega⟩
    have hm' : (m : Int) = 2 * n + 18446744073709551616 := by rw [← hm]; simp only [IntKind.wrap_u64]; omega
    rw [hm, w1, ofInt_nat, ofInt_nat, xor_ones m (by omega)]
    simp only [IntKind.wrap_u64, hn, if_true]
    omega
  · have d : n / 9223372036854775808 = 0 := by omega
    rw [d]
    have w1 : IntKind.u64.wrap 0 = ((0 : Nat) : Int) := by simp [IntKind.wrap_u64]
    obtain ⟨m, hm⟩ : ∃ m : Nat, IntKind.u64.wrap (IntKind.u64.wrap n * 2) = (m : Int) := ⟨(IntKind.u64.wrap (IntKind.u64.wrap n * 2)).toNat, by simp only [IntKind.wrap_u64]; omega⟩
    have hm' : (m : Int) = 2 * n := by rw [← hm]; simp only [IntKind.wrap_u64]; omega
    have hx : (BitVec.ofNat 64 m ^^^ BitVec.ofNat 64 0).toNat = m := by
      have : BitVec.ofNat 64 0 = 0#64 := rfl
      rw [this, BitVec.xor_zero]; simp; omega
    rw [hm, w1, ofInt_nat, ofInt_nat, hx]
    simp only [IntKind.wrap_u64, hn, if_false]
    omega

theorem refZig {n : Int} (hn : I64 n) : CallOK Try.prog 75 [.int .i64 n] [] 0 (Out (.int .u64 (zig n)) [] 0) := by
  refine callOK Try.call75 Try.func75 Try.ntmps75 rfl ?_
  conv => arg 4; whnf
  refine ⟨fun h => ?_, fun h => ?_⟩
  · conv => arg 4; whnf
    exact ⟨by rw [zig_neg hn (by simpa using h)], rfl, rfl⟩
  · conv => arg 4; whnf
    exact ⟨by rw [zig_pos hn (by simpa using h)], rfl, rfl⟩

theorem numZig {n : Int} (hn : I64 n) : CallOK Try.prog 76 [.int .i64 n] [] 0 (Out (.int .u64 (zig n)) [] 0) := by
  refine callOK Try.call76 Try.func76 Try.ntmps76 rfl ?_
  conv => arg 4; whnf
  refine ⟨by decide, ?_⟩; conv => arg 4; whnf
  refine ⟨by decide, ?_⟩; conv => arg 4; whnf
  exact ⟨by rw [zig_bits hn], rfl, rfl⟩

end Go.Proofs.Ytlcanameloklbaa

namespace Go.Proofs.Ytlcanameloklbaa
set_option maxRecDepth 100000
set_option maxHeartbeats 80000000
open Go.Sym

theorem int_u8 (x : Int) : AV.int .u8 (IntKind.u8.wrap x) = u8 (UInt8.ofNat (x % 256).toNat) := by
  unfold u8
  congr 1
  rw [IntKind.wrap_u8]
  simp
  omega

def bt (n : Nat) : UInt8 := UInt8.ofNat n

/-- A number without a sign as bytes. -/
def putU (u : Nat) : List UInt8 :=
  if u < 128 then [bt u] else bt (u % 128 + 128) :: putU (u / 128)
termination_by u

theorem putU_small {u : Nat} (h : u < 128) : putU u = [bt u] := by rw [putU]; simp [h]
theorem putU_big {u : Nat} (h : ¬ u < 128) : putU u = bt (u % 128 + 128) :: putU (u / 128) := by rw [putU]; simp [h]

theorem putU_len : ∀ (k u : Nat), u < 128 ^ (k + 1) → (putU u).length ≤ k + 1
  | 0, u, h => by rw [putU_small (by simpa using h)]; simp
  | k + 1, u, h => by
    by_cases hu : u < 128
    · rw [putU_small hu]; simp
    · rw [putU_big hu]
      have := putU_len k (u / 128) (by rw [Nat.div_lt_iff_lt_mul (by omega)]; rw [Nat.pow_succ] at h; exact h)
      simp only [List.length_cons]; omega

theorem putU_len10 {u : Nat} (h : u < 18446744073709551616) : (putU u).length ≤ 10 := by
  have e : (128 : Nat) ^ (9 + 1) = 1180591620717411303424 := by decide
  exact putU_len 9 u (by rw [e]; omega)

def put (n : Int) : List UInt8 := putU (zig n)

theorem put_len {n : Int} (h : I64 n) : (put n).length ≤ 10 := putU_len10 (zig_lt h)

theorem or128 (x : Nat) : (BitVec.ofNat 8 x ||| BitVec.ofNat 8 128).toNat = x % 128 + 128 := by
  have h1 : ∀ y : BitVec 8, (y ||| BitVec.ofNat 8 128).toNat = y.toNat % 128 + 128 := by decide
  rw [h1]; simp

theorem low7 (u : Nat) : AV.int .u8 (IntKind.u8.wrap (BitVec.ofInt IntKind.u8.bits (IntKind.u8.wrap (u : Int)) ||| BitVec.ofInt IntKind.u8.bits 128).toNat) = u8 (bt (u % 128 + 128)) := by
  have e3 : IntKind.u8.bits = 8 := rfl
  have e4 : IntKind.u8.wrap (u : Int) = ((u % 256 : Nat) : Int) := by rw [IntKind.wrap_u8]; omega
  have e5 : BitVec.ofInt 8 128 = BitVec.ofNat 8 128 := by decide
  rw [int_u8, e3, e4, ofInt_nat, e5, or128]
  congr 1
  unfold bt
  congr 1
  omega

theorem last7 {u : Nat} (h : u < 128) : AV.int .u8 (IntKind.u8.wrap (u : Int)) = u8 (bt u) := by
  rw [int_u8]
  unfold bt
  congr 1
  congr 1
  omega

theorem u8s_append (l m : List UInt8) : u8s (l ++ m) = u8s l ++ u8s m := by simp [u8s]
theorem u8s_snoc (l : List UInt8) (c : UInt8) : u8s l ++ [u8 c] = u8s (l ++ [c]) := by simp [u8s]
theorem u8s_length (l : List UInt8) : (u8s l).length = l.length := by simp [u8s]

structure PutI (u0 : Nat) where
  l : List UInt8
  u : Nat
  h : l ++ putU u = putU u0
  b : u < 18446744073709551616

theorem shr7 {u : Nat} (h : u < 18446744073709551616) : (u : Int).fdiv (2 ^ (min (7 : Int).toNat IntKind.u64.bits)) = ((u / 128 : Nat) : Int) := by
  have e2 : (2 : Int) ^ (min (7 : Int).toNat IntKind.u64.bits) = 128 := by decide
  rw [e2, Int.fdiv_eq_ediv_of_nonneg _ (by omega)]
  omega

theorem refPutT {n : Int} (hn : I64 n) : CallOK Try.prog 51 [.int .i64 n] [] 0 (fun a h m => ∃ s, Out (.sl (.tok 0 s) 0 (u8s (put n))) [(0, .tip s)] 1 a h m) := by
  have hz := zig_lt hn
  refine callOK Try.call51 Try.func51 Try.ntmps51 rfl ?_
  conv => arg 4; whnf
  refine holds_out [] (refZig hn) rfl trivial rfl ?_
  conv => arg 4; whnf
  refine tri_loopG (ι := PutI (zig n)) (fun i => ⟨[(4, .sl (.tok 0 i.l.length) 0 (u8s i.l)), (3, .int .u64 i.u)], [(0, .tip i.l.length)], 1, 22⟩) (fun i => i.u) ⟨[], zig n, rfl, hz⟩ ?_ ?_
  · exact WkG.tok rfl rfl ⟨Le.nilsTok rfl, Le.refl _ _, trivial⟩ ⟨⟨_, rfl, rfl⟩, trivial⟩ ⟨cut_ok rfl, rfl, trivial⟩ ⟨⟨by decide, rfl⟩, trivial⟩
  · intro i
    have hi := i.h
    have hlen : i.l.length + (putU i.u).length ≤ 10 := by rw [← List.length_append, hi]; exact putU_len10 hz
    have hu : i.u < 18446744073709551616 := i.b
    conv => arg 4; whnf
    refine ⟨fun hb => ?_, fun hb => ?_⟩
    · have hb : ¬ i.u < 128 := by simp at hb; omega
      conv => arg 4; whnf
      refine ⟨⟨rfl, sizeOk 1 rfl ?_⟩, ?_⟩
      · simp [u8s_length]; omega
      conv => arg 4; whnf
      refine ⟨by decide, ?_⟩; conv => arg 4; whnf
      refine ⟨⟨i.l ++ [bt (i.u % 128 + 128)], i.u / 128, by rw [putU_big hb] at hi; rw [← hi]; simp, by omega⟩, Nat.div_lt_self (by omega) (by omega), WkG.of rfl rfl ⟨Le.of_eq ?_, Le.of_eq ?_, trivial⟩ ⟨⟨_, rfl, ?_⟩, trivial⟩ ⟨cut_ok rfl, rfl, trivial⟩ ⟨⟨by decide, rfl⟩, trivial⟩⟩
      · conv => lhs; whnf
        rw [low7, u8s_snoc]; simp
      · conv => lhs; whnf
        rw [shr7 hu]
      · simp [LeO]
    · have hb : i.u < 128 := by simp at hb; omega
      conv => arg 4; whnf
      refine ⟨⟨rfl, sizeOk 1 rfl ?_⟩, ?_⟩
      · simp [u8s_length]; omega
      conv => arg 4; whnf
      refine ⟨i.l.length + 1, ?_, rfl, rfl⟩
      rw [last7 hb, u8s_snoc, ← putU_small hb, hi]
      rfl

theorem refPut {n : Int} (hn : I64 n) : CallOK Try.prog 51 [.int .i64 n] [] 0 (Out (.sl .none 0 (u8s (put n))) [] 0) :=
  (refPutT hn).ghost fun a h m ⟨s, e1, e2, e3⟩ => by
    subst e1; subst e2; subst e3
    exact ⟨_, [], 0, by omega, (Gh.le (h' := []) (fun _ => Le.none) (HeapLe.le trivial)).trans (Gh.drop (Nat.le_refl _) (fun _ => cut_ok rfl) (HeapCut.get trivial)), rfl, rfl, rfl⟩

theorem numPutT {n : Int} (hn : I64 n) : CallOK Try.prog 54 [.int .i64 n] [] 0 (fun a h m => ∃ s, Out (.sl (.tok 0 s) 0 (u8s (put n))) [(0, .tip s)] 1 a h m) := by
  have hz := zig_lt hn
  refine callOK Try.call54 Try.func54 Try.ntmps54 rfl ?_
  conv => arg 4; whnf
  refine holds_out [] (numZig hn) rfl trivial rfl ?_
  conv => arg 4; whnf
  refine tri_loopG (ι := PutI (zig n)) (fun i => ⟨[(2, .sl (.tok 0 i.l.length) 0 (u8s i.l)), (3, .int .u64 i.u)], [(0, .tip i.l.length)], 1, 21⟩) (fun i => i.u) ⟨[], zig n, rfl, hz⟩ ?_ ?_
  · exact WkG.tok rfl rfl ⟨Le.nilsTok rfl, Le.refl _ _, trivial⟩ ⟨⟨_, rfl, rfl⟩, trivial⟩ ⟨cut_ok rfl, rfl, trivial⟩ ⟨⟨by decide, rfl⟩, trivial⟩
  · intro i
    have hi := i.h
    have hlen : i.l.length + (putU i.u).length ≤ 10 := by rw [← List.length_append, hi]; exact putU_len10 hz
    have hu : i.u < 18446744073709551616 := i.b
    conv => arg 4; whnf
    refine ⟨fun hb => ?_, fun hb => ?_⟩
    · have hb : ¬ i.u < 128 := by simp at hb; omega
      conv => arg 4; whnf
      refine ⟨⟨rfl, sizeOk 1 rfl ?_⟩, ?_⟩
      · simp [u8s_length]; omega
      conv => arg 4; whnf
      refine ⟨by decide, ?_⟩; conv => arg 4; whnf
      refine ⟨⟨i.l ++ [bt (i.u % 128 + 128)], i.u / 128, by rw [putU_big hb] at hi; rw [← hi]; simp, by omega⟩, Nat.div_lt_self (by omega) (by omega), WkG.of rfl rfl ⟨Le.of_eq ?_, Le.of_eq ?_, trivial⟩ ⟨⟨_, rfl, ?_⟩, trivial⟩ ⟨cut_ok rfl, rfl, trivial⟩ ⟨⟨by decide, rfl⟩, trivial⟩⟩
      · conv => lhs; whnf
        rw [low7, u8s_snoc]; simp
      · conv => lhs; whnf
        rw [shr7 hu]
      · simp [LeO]
    · have hb : i.u < 128 := by simp at hb; omega
      conv => arg 4; whnf
      refine ⟨⟨rfl, sizeOk 1 rfl ?_⟩, ?_⟩
      · simp [u8s_length]; omega
      conv => arg 4; whnf
      refine ⟨i.l.length + 1, ?_, rfl, rfl⟩
      rw [last7 hb, u8s_snoc, ← putU_small hb, hi]
      rfl

theorem numPut {n : Int} (hn : I64 n) : CallOK Try.prog 54 [.int .i64 n] [] 0 (Out (.sl .none 0 (u8s (put n))) [] 0) :=
  (numPutT hn).ghost fun a h m ⟨s, e1, e2, e3⟩ => by
    subst e1; subst e2; subst e3
    exact ⟨_, [], 0, by omega, (Gh.le (h' := []) (fun _ => Le.none) (HeapLe.le trivial)).trans (Gh.drop (Nat.le_refl _) (fun _ => cut_ok rfl) (HeapCut.get trivial)), rfl, rfl, rfl⟩
end Go.Proofs.Ytlcanameloklbaa

namespace Go.Proofs.Ytlcanameloklbaa
set_option maxRecDepth 100000
set_option maxHeartbeats 80000000
open Go.Sym

/-- A writer's objects. -/
abbrev WH (l : List UInt8) (s : Nat) (bad : Bool) : Heap := [(0, .cells [.sl (.tok 1 s) 0 (u8s l), .bool bad]), (1, .tip s)]

theorem wNum {n : Int} (hn : I64 n) {l : List UInt8} {s : Nat} {bad : Bool} (hl : l.length ≤ 100000000000000) :
    CallOK Try.prog 16 [.ptr 0 0, .int .i64 n] (WH l s bad) 2 (Out (.ptr 0 0) (WH (l ++ put n) (s + 1) bad) 2) := by
  have hp := put_len hn
  refine callOK Try.call16 Try.func16 Try.ntmps16 rfl ?_
  conv => arg 4; whnf
  refine holds_out [] (numPut hn) rfl trivial rfl ?_
  conv => arg 4; whnf
  refine ⟨rfl, ?_⟩
  simp only [renL_u8s]
  conv => arg 4; whnf
  refine ⟨⟨by first | rfl | trivial, sizeOk 1 rfl ?_⟩, ?_⟩
  · simp [u8s_length]; omega
  conv => arg 4; whnf
  refine ⟨rfl, ?_, rfl⟩
  simp [WH, u8s_append]

/-- A copy of bytes. -/
theorem clone {l : List UInt8} (hl : l.length ≤ 100000000000000) :
    CallOK Try.prog 53 [.sl .none 0 (u8s l)] [] 0 (Out (.sl .none 0 (u8s l)) [] 0) := by
  suffices hs : CallOK Try.prog 53 [.sl .none 0 (u8s l)] [] 0 (fun a h m => Out (.sl .none 0 (u8s l)) [] 0 a h m ∨ Out (.nils) [] 0 a h m ∧ l = [] ∨ Out (.sl (.tok 0 0) 0 (u8s l)) [(0, .tip 0)] 1 a h m) from
    hs.ghost fun a h m ho => by
      rcases ho with ⟨e1, e2, e3⟩ | ⟨⟨e1, e2, e3⟩, rfl⟩ | ⟨e1, e2, e3⟩ <;> subst e1 <;> subst e2 <;> subst e3
      · exact ⟨_, [], 0, by omega, .refl _ _ _ _, rfl, rfl, rfl⟩
      · exact ⟨_, [], 0, by omega, Gh.le (fun _ => Le.nils) (HeapLe.le trivial), rfl, rfl, rfl⟩
      · exact ⟨_, [], 0, by omega, (Gh.le (h' := []) (fun _ => Le.none) (HeapLe.le trivial)).trans (Gh.drop (Nat.le_refl _) (fun _ => cut_ok rfl) (HeapCut.get trivial)), rfl, rfl, rfl⟩
  refine callOK Try.call53 Try.func53 Try.ntmps53 rfl ?_
  conv => arg 4; whnf
  intro b hb
  cases b with
  | true =>
    have hb := hb rfl
    refine ⟨fun _ => ?_, fun h => (by cases h)⟩
    conv => arg 4; whnf
    refine .inr (.inl ⟨⟨rfl, rfl, rfl⟩, by cases l <;> simp_all [u8s]⟩)
  | false =>
    refine ⟨fun h => (by cases h), fun _ => ?_⟩
    conv => arg 4; whnf
    refine ⟨sizeOk 1 rfl ?_, ?_⟩
    · simp [u8s_length]; omega
    refine Or.inl ?_
    conv => arg 4; whnf
    exact .inr (.inr ⟨rfl, rfl, rfl⟩)

/-- What a writer answers at last. -/
theorem wDone {l : List UInt8} {s : Nat} {bad : Bool} (hl : l.length ≤ 100000000000000) :
    CallOK Try.prog 15 [.ptr 0 0] (WH l s bad) 2 (Out (.tup [.sl .none 0 (u8s (if bad then [] else l)), .bool !bad]) (WH l s bad) 2) := by
  suffices hs : CallOK Try.prog 15 [.ptr 0 0] (WH l s bad) 2 (fun a h m => (bad = false ∧ Out (.tup [.sl .none 0 (u8s l), .bl true]) (WH l s bad) 2 a h m) ∨ (bad = true ∧ Out (.tup [.nils, .bl false]) (WH l s bad) 2 a h m)) from
    hs.ghost fun a h m ho => by
      rcases ho with ⟨rfl, e1, e2, e3⟩ | ⟨rfl, e1, e2, e3⟩ <;> subst e1 <;> subst e2 <;> subst e3
      · exact ⟨_, _, 2, by omega, Gh.le (fun _ => Le.tup (.cons (Le.refl _ _) (.cons Le.bl (LeL.nil _)))) (fun id o hg => ⟨o, hg, LeO.refl _ _⟩), rfl, rfl, rfl⟩
      · exact ⟨_, _, 2, by omega, Gh.le (fun _ => Le.tup (.cons Le.nils (.cons Le.bl (LeL.nil _)))) (fun id o hg => ⟨o, hg, LeO.refl _ _⟩), rfl, rfl, rfl⟩
  refine callOK Try.call15 Try.func15 Try.ntmps15 rfl ?_
  conv => arg 4; whnf
  refine ⟨fun h => ?_, fun h => ?_⟩
  · conv => arg 4; whnf
    exact .inr ⟨h, rfl, rfl, rfl⟩
  · conv => arg 4; whnf
    refine holds_args (args' := [.sl .none 0 (u8s l)]) ⟨Le.none, trivial⟩ (holds_out [] (clone hl) rfl trivial (by rw [show renL (rho 2 []) [AV.sl .none 0 (u8s l)] = [ren (rho 2 []) (.sl .none 0 (u8s l))] from rfl, ren_u8s]; rfl) ?_)
    conv => arg 4; whnf
    simp only [renL_u8s]
    exact .inl ⟨h, rfl, rfl, rfl⟩

theorem wBytes {b l : List UInt8} {s : Nat} {bad : Bool} (hl : l.length + b.length ≤ 10000000000000) :
    CallOK Try.prog 30 [.ptr 0 0, .sl .none 0 (u8s b)] (WH l s bad) 2 (Out (.ptr 0 0) (WH (l ++ (put b.length ++ b)) (s + 2) bad) 2) := by
  have hn : I64 b.length := by unfold I64; omega
  have hp := put_len hn
  refine callOK Try.call30 Try.func30 Try.ntmps30 rfl ?_
  conv => arg 4; whnf
  refine holds_out [0, 1] (wNum hn (l := l) (s := s) (bad := bad) (by omega)) rfl ?_ ?_ ?_
  · exact ⟨⟨by decide, by (try simp only [renO, renL, renL_u8s, ren, u8s_length]) <;> rfl⟩, ⟨by decide, rfl⟩, trivial⟩
  · (try simp only [renO, renL, renL_u8s, ren, u8s_length]) <;> rfl
  conv => arg 4; whnf
  simp only [renL_u8s]
  refine ⟨⟨by first | rfl | trivial, sizeOk 1 rfl ?_⟩, ?_⟩
  · simp [u8s_length]; omega
  conv => arg 4; whnf
  refine ⟨rfl, ?_, rfl⟩
  simp [WH, u8s_append]

theorem wText {b l : List UInt8} {s : Nat} {bad : Bool} (hl : l.length + b.length ≤ 10000000000000) :
    CallOK Try.prog 49 [.ptr 0 0, .str b] (WH l s bad) 2 (Out (.ptr 0 0) (WH (l ++ (put b.length ++ b)) (s + 2) bad) 2) := by
  refine callOK Try.call49 Try.func49 Try.ntmps49 rfl ?_
  conv => arg 4; whnf
  refine holds_out [0, 1] (wBytes hl (s := s) (bad := bad)) rfl ?_ ?_ ?_
  · exact ⟨⟨by decide, by (try simp only [renO, renL, renL_u8s, ren, u8s_length]) <;> rfl⟩, ⟨by decide, rfl⟩, trivial⟩
  · (try simp only [renO, renL, renL_u8s, ren, u8s_length]) <;> rfl
  conv => arg 4; whnf
  refine ⟨rfl, ?_, rfl⟩
  simp [WH, renL_u8s]

end Go.Proofs.Ytlcanameloklbaa

namespace Go.Proofs.Ytlcanameloklbaa
set_option maxRecDepth 100000
set_option maxHeartbeats 80000000
open Go.Sym

/-- The lowest bytes of a number, the greatest first. -/
def fixed (n : Nat) : Nat → List UInt8
  | 0 => []
  | k + 1 => bt (n / 256 ^ k) :: fixed n k

theorem fixed_len (n : Nat) : ∀ k, (fixed n k).length = k
  | 0 => rfl
  | k + 1 => by simp [fixed, fixed_len n k]

/-- May a number be written in so many bytes? -/
def Fits (n size : Int) : Prop := 0 ≤ n ∧ 1 ≤ size ∧ size ≤ 8 ∧ (size < 8 → n < 256 ^ size.toNat)

theorem shr_eq {n k : Nat} (hk : k < 8) : (n : Int).fdiv (2 ^ (min (IntKind.i64.wrap (8 * (k : Int))).toNat IntKind.i64.bits)) = ((n / 256 ^ k : Nat) : Int) := by
  have e1 : IntKind.i64.wrap (8 * (k : Int)) = 8 * k := by rw [IntKind.wrap_i64]; omega
  have e2 : min (8 * (k : Int)).toNat IntKind.i64.bits = 8 * k := by have : IntKind.i64.bits = 64 := rfl; omega
  have e3 : (2 : Int) ^ (8 * k) = ((256 ^ k : Nat) : Int) := by rw [Int.pow_mul]; simp
  rw [e1, e2, e3, Int.fdiv_eq_ediv_of_nonneg _ (Int.natCast_nonneg _)]
  exact (Int.natCast_ediv _ _).symm

theorem nat_u8 (m : Nat) : AV.int .u8 (IntKind.u8.wrap (m : Int)) = u8 (bt m) := by
  rw [int_u8]
  unfold bt
  congr 1
  apply UInt8.toNat_inj.1
  simp
  omega

theorem fits_iff {n size : Int} (hn : I64 n) (hs : I64 size) : (bif bif bif decide (n < 0) then true else decide (size < 1) then true else decide (size > 8) then true
else
  bif decide (size < 8) then decide (n.fdiv (2 ^ min (IntKind.i64.wrap (8 * size)).toNat IntKind.i64.bits) > 0)
  else false) = true ↔ ¬ Fits n size := by
  unfold Fits
  by_cases h1 : n < 0
  · simp [h1]; omega
  by_cases h2 : size < 1
  · simp [h2]; omega
  by_cases h3 : size > 8
  · simp [h3]; omega
  by_cases h4 : size < 8
  · obtain ⟨m, rfl⟩ : ∃ m : Nat, n = m := ⟨n.toNat, by omega⟩
    obtain ⟨k, rfl⟩ : ∃ k : Nat, size = k := ⟨size.toNat, by omega⟩
    have hk : k < 8 := by omega
    have e : (m : Int) < 256 ^ k ↔ m < 256 ^ k := by
      rw [show (256 : Int) ^ k = ((256 ^ k : Nat) : Int) by simp]
      omega
    have hp : 0 < 256 ^ k := Nat.pow_pos (by omega)
    have hd : 0 < m / 256 ^ k ↔ ¬ m < 256 ^ k := by
      rw [Nat.not_lt]
      constructor
      · intro h
        have := Nat.div_mul_le_self m (256 ^ k)
        have := Nat.mul_le_mul_right (256 ^ k) h
        omega
      · intro h
        exact Nat.div_pos h hp
    simp only [h1, h2, h3, h4, shr_eq hk, decide_false, decide_true, cond_false, cond_true, decide_eq_true_eq]
    simp only [Int.toNat_natCast, e, gt_iff_lt, forall_const]
    first | done | omega
  · simp [h1, h2, h3, h4]
    first | done | omega

structure FixI (n : Nat) (size : Nat) (l0 : List UInt8) where
  l : List UInt8
  k : Nat
  s : Nat
  h : l ++ fixed n k = l0 ++ fixed n size
  b : k ≤ size

/-- A writer of fixed bytes. -/
theorem wFixed {n size : Int} (hn : I64 n) (hs : I64 size) {l : List UInt8} {s : Nat} {bad : Bool} (hl : l.length ≤ 100000000000000) :
    CallOK Try.prog 48 [.ptr 0 0, .int .i64 n, .int .i64 size] (WH l s bad) 2 (fun a h m => (Fits n size ∧ ∃ s', Out (.ptr 0 0) (WH (l ++ fixed n.toNat size.toNat) s' bad) 2 a h m) ∨ (¬ Fits n size ∧ Out (.ptr 0 0) (WH l s true) 2 a h m)) := by
  have hn' := hn
  have hs' := hs
  unfold I64 at hn' hs'
  suffices hs : CallOK Try.prog 48 [.ptr 0 0, .int .i64 n, .int .i64 size] (WH l s bad) 2 (fun a h m => (Fits n size ∧ ∃ s', Out (.ptr 0 0) (WH (l ++ fixed n.toNat size.toNat) s' bad) 2 a h m) ∨ (¬ Fits n size ∧ Out (.ptr 0 0) [(0, .cells [.sl (.tok 1 s) 0 (u8s l), .bl true]), (1, .tip s)] 2 a h m)) from
    hs.ghost fun a h m ho => by
      rcases ho with ⟨hf, s', e1, e2, e3⟩ | ⟨hf, e1, e2, e3⟩ <;> subst e1 <;> subst e2 <;> subst e3
      · exact ⟨_, _, _, by omega, .refl _ _ _ _, .inl ⟨hf, s', rfl, rfl, rfl⟩⟩
      · exact ⟨_, WH l s true, _, by omega, Gh.le (fun _ => Le.refl _ _) (HeapLe.le ⟨⟨_, rfl, LeL.cons (Le.refl _ _) (.cons Le.bl (LeL.nil _))⟩, ⟨_, rfl, rfl⟩, trivial⟩), .inr ⟨hf, rfl, rfl, rfl⟩⟩
  refine callOK Try.call48 Try.func48 Try.ntmps48 rfl ?_
  conv => arg 4; whnf
  refine ⟨?_, ?_⟩
  · conv => whnf
    intro h1
    conv => whnf
    intro h2
    simp at h1 h2
    show 0 ≤ IntKind.i64.wrap (8 * size)
    rw [IntKind.wrap_i64]
    omega
  have hfits := fits_iff hn hs
  conv => arg 4; whnf
  refine ⟨fun h => ?_, fun h => ?_⟩
  · have hf := hfits.1 h
    conv => arg 4; whnf
    exact .inr ⟨hf, rfl, rfl, rfl⟩
  · have hf : Fits n size := by
      by_cases hf : Fits n size
      · exact hf
      · rw [hfits.2 hf] at h; cases h
    obtain ⟨f1, f2, f3, f4⟩ := hf
    obtain ⟨m, rfl⟩ : ∃ m : Nat, n = m := ⟨n.toNat, by omega⟩
    obtain ⟨z, rfl⟩ : ∃ z : Nat, size = z := ⟨size.toNat, by omega⟩
    conv => arg 4; whnf
    refine tri_loopG (ι := FixI m z l) (fun i => ⟨[(2, .int .i64 ((i.k : Int) - 1)), (0, .ptr 0 0), (1, .int .i64 m)], WH i.l i.s bad, 2, 55⟩) (fun i => i.k) ⟨l, z, s, rfl, Nat.le_refl _⟩ ?_ ?_
    · refine WkG.of rfl rfl ⟨Le.of_eq ?_, Le.refl _ _, Le.refl _ _, trivial⟩ ⟨⟨_, rfl, LeO.refl _ _⟩, ⟨_, rfl, rfl⟩, trivial⟩ ⟨rfl, rfl, rfl, trivial⟩ ⟨⟨by decide, by (try simp only [renO, renL, renL_u8s, ren, u8s_length]) <;> rfl⟩, ⟨by decide, rfl⟩, trivial⟩
      conv => lhs; whnf
      rw [IntKind.wrap_i64]
      congr 1
      show _ = (z : Int) - 1
      omega
    · intro i
      have hi := i.h
      have hb := i.b
      have hlen : i.l.length + i.k = l.length + z := by have := congrArg List.length hi; simpa [fixed_len] using this
      conv => arg 4; whnf
      refine ⟨fun h => ?_, fun h => ?_⟩
      · have hk : 0 < i.k := by simp at h; omega
        obtain ⟨k, hk⟩ : ∃ k, i.k = k + 1 := ⟨i.k - 1, by omega⟩
        have e1 : ((i.k : Int) - 1) = (k : Int) := by omega
        rw [e1]
        conv => arg 4; whnf
        refine ⟨?_, ?_⟩
        · show 0 ≤ IntKind.i64.wrap (8 * (k : Int))
          rw [IntKind.wrap_i64]; omega
        conv => arg 4; whnf
        refine ⟨⟨by first | rfl | trivial, sizeOk 1 rfl ?_⟩, ?_⟩
        · simp [u8s_length]; omega
        conv => arg 4; whnf
        refine ⟨⟨i.l ++ [bt (m / 256 ^ k)], k, i.s + 1, by rw [hk] at hi; rw [← hi]; simp [fixed], by omega⟩, by show k < i.k; omega, WkG.of rfl rfl ⟨Le.of_eq ?_, Le.refl _ _, Le.refl _ _, trivial⟩ ⟨⟨_, rfl, LeL.cons (Le.of_eq ?_) (LeL.refl _ _)⟩, ⟨_, rfl, rfl⟩, trivial⟩ ⟨rfl, rfl, rfl, trivial⟩ ⟨⟨by decide, by (try simp only [renO, renL, renL_u8s, ren, u8s_length]) <;> rfl⟩, ⟨by decide, rfl⟩, trivial⟩⟩
        · conv => lhs; whnf
          rw [IntKind.wrap_i64]
          congr 1
          show _ = (k : Int) - 1
          omega
        · rw [shr_eq (by omega), nat_u8, u8s_snoc]
      · have hk : i.k = 0 := by simp at h; omega
        rw [hk] at hi
        conv => arg 4; whnf
        refine .inl ⟨⟨f1, f2, f3, f4⟩, i.s, rfl, ?_, rfl⟩
        have : i.l = l ++ fixed m z := by simpa [fixed] using hi
        rw [this]; rfl

theorem flat_one (k : Nat) (x : AV) : (List.replicate k [x]).flatten = List.replicate k x := by
  induction k with
  | zero => rfl
  | succ k ih => simp [List.replicate_succ, ih]

theorem u8s_zeros (k : Nat) : List.replicate k (AV.int .u8 0) = u8s (List.replicate k 0) := by
  simp [u8s, u8]

theorem set_fixed (n k i : Nat) : (List.replicate (k + 1) 0 ++ fixed n i).set k (bt (n / 256 ^ i)) = List.replicate k 0 ++ fixed n (i + 1) := by
  induction k with
  | zero => rfl
  | succ k ih => rw [List.replicate_succ, List.cons_append, List.set_cons_succ, ih, List.replicate_succ, List.cons_append]

theorem u8s_set (l : List UInt8) (k : Nat) (c : UInt8) : (u8s l).set k (u8 c) = u8s (l.set k c) := by simp [u8s, List.map_set]

theorem shr_eq' {n k : Nat} (hk : k < 8) : (n : Int).fdiv (2 ^ (min (IntKind.i64.wrap (8 * (k : Int))).toNat IntKind.u64.bits)) = ((n / 256 ^ k : Nat) : Int) := shr_eq hk

structure RFI (size : Nat) where
  i : Nat
  b : i ≤ size

/-- The document's fixed bytes. -/
theorem refFixedF {n size : Nat} (hn : I64 n) (hs : size ≤ 8) :
    CallOK Try.prog 50 [.int .i64 n, .int .i64 size] [] 0 (Out (.sl .full 0 (u8s (fixed n size))) [] 0) := by
  refine CallOK.told (a := .arr 0 0 size) (h1 := [(0, .cells (u8s (fixed n size)))]) (m := 1) ?_ (by omega) ((Gh.freeze (id := 0) (l := u8s (fixed n size)) (f' := fun _ => .sl .full 0 (u8s (fixed n size))) (h' := []) rfl (fun _ => .inr ⟨by rw [u8s_length, fixed_len], rfl⟩) (fun j o hg => by simp [Sym.get] at hg)).trans (Gh.drop (Nat.le_refl _) (fun _ => cut_ok rfl) (HeapCut.get trivial)))
  refine callOK Try.call50 Try.func50 Try.ntmps50 rfl ?_
  conv => arg 4; whnf
  refine ⟨⟨by omega, rfl, ?_, by omega⟩, ?_⟩
  · show (size : Int) * (1 : Int) ≤ _
    omega
  refine .inr ?_
  conv => arg 4; whnf
  unfold I64 at hn
  refine tri_loopG (ι := RFI size) (fun x => ⟨[(6, .int .i64 x.i), (5, .arr 0 0 size), (0, .int .i64 n), (1, .int .i64 size)], [(0, .cells (u8s (List.replicate (size - x.i) 0 ++ fixed n x.i)))], 1, 27⟩) (fun x => size - x.i) ⟨0, Nat.zero_le _⟩ ?_ ?_
  · refine WkG.of rfl rfl ⟨Le.refl _ _, Le.refl _ _, Le.refl _ _, Le.refl _ _, trivial⟩ ⟨⟨_, rfl, ?_⟩, trivial⟩ ⟨rfl, rfl, rfl, rfl, trivial⟩ ⟨⟨by decide, by simp only [renO, renL_u8s]⟩, trivial⟩
    have e : (List.replicate (size : Int).toNat [AV.int .u8 0]).flatten = u8s (List.replicate (size - 0) 0 ++ fixed n 0) := by rw [flat_one, u8s_zeros]; simp [fixed]
    show LeL _ (List.replicate (size : Int).toNat [AV.int .u8 0]).flatten (u8s (List.replicate (size - 0) 0 ++ fixed n 0))
    rw [e]
    exact LeL.refl _ _
  · intro x
    have hb := x.b
    conv => arg 4; whnf
    refine ⟨fun h => ?_, fun h => ?_⟩
    · have hk : x.i < size := by simp at h; omega
      have e0 : IntKind.i64.wrap (IntKind.i64.wrap ((size : Int) - 1) - (x.i : Int)) = ((size - x.i - 1 : Nat) : Int) := by simp only [IntKind.wrap_i64]; omega
      conv => arg 4; whnf
      refine ⟨by rw [IntKind.wrap_i64]; omega, ?_⟩
      simp only [e0]
      refine ⟨by omega, ?_⟩
      conv => arg 4; whnf
      simp only [Int.toNat_natCast, show width 0 = 1 from rfl, Nat.mul_one]
      refine ⟨by rw [u8s_length]; simp [fixed_len]; omega, ?_⟩
      conv => arg 4; whnf
      refine ⟨⟨x.i + 1, by omega⟩, by show size - (x.i + 1) < size - x.i; omega, WkG.of rfl rfl ⟨Le.of_eq ?_, Le.refl _ _, Le.refl _ _, Le.refl _ _, trivial⟩ ⟨⟨_, rfl, ?_⟩, trivial⟩ ⟨rfl, rfl, rfl, rfl, trivial⟩ ⟨⟨by decide, by simp only [renO, renL_u8s]⟩, trivial⟩⟩
      · conv => lhs; whnf
        congr 1
        rw [IntKind.wrap_i64]
        show _ = ((x.i + 1 : Nat) : Int)
        omega
      · have e1 : IntKind.u64.wrap (n : Int) = (n : Int) := by rw [IntKind.wrap_u64]; omega
        have e2 : size - x.i = (size - x.i - 1) + 1 := by omega
        show LeL _ ((u8s (List.replicate (size - x.i) 0 ++ fixed n x.i)).set (size - x.i - 1) (AV.int .u8 (IntKind.u8.wrap ((IntKind.u64.wrap (n : Int)).fdiv (2 ^ min (IntKind.i64.wrap (8 * (x.i : Int))).toNat IntKind.u64.bits))))) (u8s (List.replicate (size - (x.i + 1)) 0 ++ fixed n (x.i + 1)))
        rw [e1, shr_eq' (by omega), nat_u8, u8s_set]
        have e3 : (List.replicate (size - x.i) 0 ++ fixed n x.i).set (size - x.i - 1) (bt (n / 256 ^ x.i)) = List.replicate (size - (x.i + 1)) 0 ++ fixed n (x.i + 1) := by
          rw [show size - (x.i + 1) = size - x.i - 1 by omega]
          conv => lhs; rw [e2]
          simp only [Nat.add_sub_cancel]
          exact set_fixed n (size - x.i - 1) x.i
        rw [e3]
        exact LeL.refl _ _
    · have hk : x.i = size := by simp at h; omega
      conv => arg 4; whnf
      refine ⟨rfl, ?_, rfl⟩
      rw [hk]
      simp

theorem refFixed {n size : Nat} (hn : I64 n) (hs : size ≤ 8) :
    CallOK Try.prog 50 [.int .i64 n, .int .i64 size] [] 0 (Out (.sl .none 0 (u8s (fixed n size))) [] 0) :=
  (refFixedF hn hs).told (by omega) (Gh.le (fun _ => Le.none) (HeapLe.le trivial))
end Go.Proofs.Ytlcanameloklbaa

namespace Go.Proofs.Ytlcanameloklbaa
set_option maxRecDepth 100000
set_option maxHeartbeats 80000000
open Go.Sym

structure Item where
  kind : Int
  n : Int
  size : Int
  s : List UInt8

def Item.av (x : Item) : AV := .agg [.int .i64 x.kind, .int .i64 x.n, .int .i64 x.size, .str x.s]
def items (l : List Item) : List AV := l.map Item.av
def Item.ok (x : Item) : Prop := I64 x.kind ∧ I64 x.n ∧ I64 x.size

theorem refText {b : List UInt8} (hl : b.length ≤ 1000000000) :
    CallOK Try.prog 52 [.str b] [] 0 (Out (.sl .none 0 (u8s (put b.length ++ b))) [] 0) := by
  have hn : I64 (b.length : Int) := by unfold I64; omega
  have hp := put_len hn
  suffices hs : CallOK Try.prog 52 [.str b] [] 0 (fun a h m => ∃ s, Out (.sl (.tok 0 s) 0 (u8s (put b.length ++ b))) [(0, .tip s)] 1 a h m) from
    hs.ghost fun a h m ⟨s, e1, e2, e3⟩ => by
      subst e1; subst e2; subst e3
      exact ⟨_, [], 0, by omega, (Gh.le (h' := []) (fun _ => Le.none) (HeapLe.le trivial)).trans (Gh.drop (Nat.le_refl _) (fun _ => cut_ok rfl) (HeapCut.get trivial)), rfl, rfl, rfl⟩
  refine callOK Try.call52 Try.func52 Try.ntmps52 rfl ?_
  conv => arg 4; whnf
  refine holds_call [] (refPutT hn) rfl trivial rfl ?_
  rintro a0 h0 m0 ⟨s, rfl, rfl, rfl⟩
  conv => arg 4; whnf
  simp only [renL_u8s]
  refine ⟨⟨by first | rfl | trivial, sizeOk 1 rfl ?_⟩, ?_⟩
  · simp [u8s_length]; omega
  conv => arg 4; whnf
  refine ⟨s + 1, ?_, rfl, rfl⟩
  rw [← u8s_append]

/-- What stands for an item; is it one that can't be written? -/
def Item.bad (x : Item) : Prop := x.kind = 1 ∧ ¬ Fits x.n x.size
open Classical in
noncomputable def Item.enc (x : Item) : List UInt8 :=
  if x.kind = 1 then (if Fits x.n x.size then fixed x.n.toNat x.size.toNat else [])
  else if x.kind = 2 then put x.n
  else if x.kind = 3 ∨ x.kind = 4 then put x.s.length ++ x.s
  else []
noncomputable def encs (l : List Item) : List UInt8 := (l.map Item.enc).flatten
/-- How much items are. -/
def tot (l : List Item) : Nat := (l.map fun x => x.s.length + 10).sum

theorem enc_len {x : Item} (ho : x.ok) (hs : x.s.length ≤ 1000000000) : x.enc.length ≤ x.s.length + 10 := by
  obtain ⟨h1, h2, h3⟩ := ho
  have p1 := put_len h2
  have p2 := put_len (n := x.s.length) (by unfold I64; omega)
  unfold Item.enc
  split
  · split
    · rename_i hf
      rw [fixed_len]
      unfold Fits at hf
      omega
    · simp
  · split
    · omega
    · split
      · simp; omega
      · simp

theorem encs_take {l : List Item} {i : Nat} {x : Item} (h : l[i]? = some x) : encs (l.take (i + 1)) = encs (l.take i) ++ x.enc := by
  unfold encs
  rw [List.take_add_one, h]
  simp

theorem tot_take {l : List Item} {i : Nat} {x : Item} (h : l[i]? = some x) : tot (l.take (i + 1)) = tot (l.take i) + (x.s.length + 10) := by
  unfold tot
  rw [List.take_add_one, h]
  simp

theorem tot_take_le (l : List Item) (i : Nat) : tot (l.take i) ≤ tot l := by
  have h := congrArg tot (List.take_append_drop i l)
  unfold tot at h ⊢
  simp only [List.map_append, List.sum_append] at h
  omega

theorem items_get {l : List Item} {i : Nat} {x : Item} (h : l[i]? = some x) : (items l)[((i : Nat) : Int).toNat]? = some x.av := by
  simp [items, h]

theorem tot_len : ∀ l : List Item, 10 * l.length ≤ tot l
  | [] => by simp [tot]
  | x :: l => by
    have := tot_len l
    unfold tot at this ⊢
    simp only [List.map_cons, List.sum_cons, List.length_cons]
    omega

theorem tot_mem {l : List Item} {x : Item} (h : x ∈ l) : x.s.length + 10 ≤ tot l := by
  induction l with
  | nil => cases h
  | cons y l ih =>
    unfold tot at ih ⊢
    simp only [List.map_cons, List.sum_cons]
    rcases List.mem_cons.1 h with rfl | h
    · omega
    · have := ih h; omega

theorem ren_items (ρ : Nat → Nat) (l : List Item) : renL ρ (items l) = items l := by
  induction l with
  | nil => rfl
  | cons x l ih =>
    show ren ρ x.av :: renL ρ (items l) = x.av :: items l
    rw [ih]; rfl
theorem cut_items {n nx : Nat} (l : List Item) : ren (cut n nx) (.sl .none 4 (items l)) = .sl .none 4 (items l) := by
  show AV.sl .none 4 (renL _ (items l)) = _
  rw [ren_items]

theorem succ_int {i : Nat} (h : i < 1000000000) : AV.int .i64 (IntKind.i64.wrap ((i : Int) + 1)) = AV.int .i64 ((i + 1 : Nat) : Int) := by
  congr 1
  rw [IntKind.wrap_i64]
  omega

structure WrI (l : List Item) where
  i : Nat
  w : List UInt8
  s : Nat
  bad : Bool
  hi : i ≤ l.length
  hb : bad = true ↔ ∃ x ∈ l.take i, x.bad
  hw : bad = false → w = encs (l.take i)
  hl : w.length ≤ tot (l.take i)

theorem bad_take {l : List Item} {i : Nat} {x : Item} (h : l[i]? = some x) : (∃ y ∈ l.take (i + 1), y.bad) ↔ (∃ y ∈ l.take i, y.bad) ∨ x.bad := by
  rw [List.take_add_one, h]
  simp only [Option.toList_some, List.mem_append, List.mem_singleton]
  constructor
  · rintro ⟨y, hy | rfl, hb⟩
    · exact .inl ⟨y, hy, hb⟩
    · exact .inr hb
  · rintro (⟨y, hy, hb⟩ | hb)
    · exact ⟨y, .inl hy, hb⟩
    · exact ⟨x, .inr rfl, hb⟩

/-- The next state, where the item was written. -/
noncomputable def WrI.good {l : List Item} (a : WrI l) {x : Item} (h : l[a.i]? = some x) (hx : ¬ x.bad) (s' : Nat) (he : x.enc.length ≤ x.s.length + 10) : WrI l where
  i := a.i + 1
  w := a.w ++ x.enc
  s := s'
  bad := a.bad
  hi := (List.getElem?_eq_some_iff.1 h).1
  hb := by rw [bad_take h, a.hb]; simp [hx]
  hw := fun hb => by rw [encs_take h, a.hw hb]
  hl := by rw [tot_take h]; have := a.hl; simp; omega

/-- The next state, where it can't be written. -/
def WrI.fail {l : List Item} (a : WrI l) {x : Item} (h : l[a.i]? = some x) (hx : x.bad) : WrI l where
  i := a.i + 1
  w := a.w
  s := a.s
  bad := true
  hi := (List.getElem?_eq_some_iff.1 h).1
  hb := by rw [bad_take h]; simp [hx]
  hw := fun hb => by cases hb
  hl := by rw [tot_take h]; have := a.hl; omega

open Classical in
/-- What items come to: their bytes; may they be written? -/
noncomputable def isOk (l : List Item) : Bool := decide (¬ ∃ x ∈ l, x.bad)
noncomputable def bytesOf (l : List Item) : List UInt8 := if isOk l then encs l else []

theorem written {l : List Item} (ho : ∀ x ∈ l, x.ok) (ht : tot l ≤ 1000000) :
    CallOK Try.prog 13 [.sl .none 4 (items l)] [] 0 (Out (.tup [.sl .none 0 (u8s (bytesOf l)), .bool (isOk l)]) [] 0) := by
  suffices hs : CallOK Try.prog 13 [.sl .none 4 (items l)] [] 0 (fun a h m => ∃ w s bad, Out (.tup [.sl .none 0 (u8s (bytesOf l)), .bool (isOk l)]) (WH w s bad) 2 a h m) from
    hs.ghost fun a h m ⟨w, s, bad, e1, e2, e3⟩ => by
      subst e1; subst e2; subst e3
      exact ⟨_, [], 0, by omega, (Gh.le (h' := []) (fun _ => Le.refl _ _) (HeapLe.le trivial)).trans (Gh.drop (Nat.le_refl _) (fun _ => by simp only [ren, renL, renL_u8s, renP]) (HeapCut.get trivial)), rfl, rfl, rfl⟩
  refine callOK Try.call13 Try.func13 Try.ntmps13 rfl ?_
  conv => arg 4; whnf
  refine tri_loopG (ι := WrI l) (fun x => ⟨[(5, .int .i64 x.i), (4, .ptr 0 0), (0, .sl .none 4 (items l))], WH x.w x.s x.bad, 2, 65⟩) (fun x => l.length - x.i) ⟨0, [], 0, false, Nat.zero_le _, by simp, fun _ => rfl, by simp⟩ ?_ ?_
  · refine WkG.tok rfl rfl ⟨Le.refl _ _, Le.refl _ _, Le.refl _ _, trivial⟩ ⟨⟨_, rfl, LeL.cons (Le.nilsTok rfl) (.cons Le.bl (LeL.nil _))⟩, ⟨_, rfl, rfl⟩, trivial⟩ ⟨rfl, rfl, ?_, trivial⟩ ⟨⟨by decide, by (try simp only [renO, renL, renL_u8s, ren, u8s_length]) <;> rfl⟩, ⟨by decide, rfl⟩, trivial⟩
    exact cut_items l
  · intro a
    have hal := a.hl
    have ht' := tot_take_le l a.i
    have htl := tot_len l
    have hai := a.hi
    conv => arg 4; whnf
    refine ⟨fun h => ?_, fun h => ?_⟩
    · have hi : a.i < l.length := by simp [items] at h; omega
      obtain ⟨x, hx⟩ : ∃ x, l[a.i]? = some x := ⟨_, List.getElem?_eq_getElem hi⟩
      have hxm : x ∈ l := List.mem_of_getElem? hx
      have hxo := ho x hxm
      have hg := items_get hx
      have htm := tot_mem hxm
      have hle := enc_len hxo (by omega)
      conv => arg 4; whnf
      refine ⟨x.av, ⟨by omega, hg⟩, ?_⟩
      conv => arg 4; whnf
      refine ⟨fun h1 => ?_, fun h1 => ?_⟩
      · have h1 : x.kind = 1 := by simpa using h1
        conv => arg 4; whnf
        refine ⟨x.av, ⟨by omega, hg⟩, ?_⟩
        conv => arg 4; whnf
        refine ⟨x.av, ⟨by omega, hg⟩, ?_⟩
        conv => arg 4; whnf
        refine holds_call [0, 1] (wFixed hxo.2.1 hxo.2.2 (l := a.w) (s := a.s) (bad := a.bad) (by omega)) rfl ⟨⟨by decide, by (try simp only [renO, renL, renL_u8s, ren, u8s_length]) <;> rfl⟩, ⟨by decide, rfl⟩, trivial⟩ (by (try simp only [renO, renL, renL_u8s, ren, u8s_length]) <;> rfl) ?_
        rintro a0 h0 m0 (⟨hf, s', rfl, rfl, rfl⟩ | ⟨hf, rfl, rfl, rfl⟩)
        · have hb : ¬ x.bad := fun h => h.2 hf
          have hen : x.enc = fixed x.n.toNat x.size.toNat := by simp [Item.enc, h1, hf]
          conv => arg 4; whnf
          simp only [renL_u8s]
          refine ⟨a.good hx hb s' hle, by show l.length - (a.i + 1) < l.length - a.i; omega, WkG.of rfl rfl ⟨Le.of_eq (succ_int (by omega)), Le.refl _ _, Le.refl _ _, trivial⟩ ⟨⟨_, rfl, by rw [← hen]; exact LeO.refl _ _⟩, ⟨_, rfl, rfl⟩, trivial⟩ ⟨rfl, rfl, cut_items l, trivial⟩ ⟨⟨by decide, by (try simp only [renO, renL, renL_u8s, ren, u8s_length]) <;> rfl⟩, ⟨by decide, rfl⟩, trivial⟩⟩
        · have hb : x.bad := ⟨h1, hf⟩
          conv => arg 4; whnf
          simp only [renL_u8s]
          refine ⟨a.fail hx hb, by show l.length - (a.i + 1) < l.length - a.i; omega, WkG.of rfl rfl ⟨Le.of_eq (succ_int (by omega)), Le.refl _ _, Le.refl _ _, trivial⟩ ⟨⟨_, rfl, LeO.refl _ _⟩, ⟨_, rfl, rfl⟩, trivial⟩ ⟨rfl, rfl, cut_items l, trivial⟩ ⟨⟨by decide, by (try simp only [renO, renL, renL_u8s, ren, u8s_length]) <;> rfl⟩, ⟨by decide, rfl⟩, trivial⟩⟩
      · have h1 : x.kind ≠ 1 := by simpa using h1
        have hb : ¬ x.bad := fun h => h1 h.1
        conv => arg 4; whnf
        refine ⟨fun h2 => ?_, fun h2 => ?_⟩
        · have h2 : x.kind = 2 := by simpa using h2
          have hen : x.enc = put x.n := by simp [Item.enc, h2]
          conv => arg 4; whnf
          refine ⟨x.av, ⟨by omega, hg⟩, ?_⟩
          conv => arg 4; whnf
          refine holds_out [0, 1] (wNum hxo.2.1 (l := a.w) (s := a.s) (bad := a.bad) (by omega)) rfl ⟨⟨by decide, by (try simp only [renO, renL, renL_u8s, ren, u8s_length]) <;> rfl⟩, ⟨by decide, rfl⟩, trivial⟩ (by (try simp only [renO, renL, renL_u8s, ren, u8s_length]) <;> rfl) ?_
          conv => arg 4; whnf
          simp only [renL_u8s]
          refine ⟨a.good hx hb (a.s + 1) hle, by show l.length - (a.i + 1) < l.length - a.i; omega, WkG.of rfl rfl ⟨Le.of_eq (succ_int (by omega)), Le.refl _ _, Le.refl _ _, trivial⟩ ⟨⟨_, rfl, by rw [← hen]; exact LeO.refl _ _⟩, ⟨_, rfl, rfl⟩, trivial⟩ ⟨rfl, rfl, cut_items l, trivial⟩ ⟨⟨by decide, by (try simp only [renO, renL, renL_u8s, ren, u8s_length]) <;> rfl⟩, ⟨by decide, rfl⟩, trivial⟩⟩
        · have h2 : x.kind ≠ 2 := by simpa using h2
          conv => arg 4; whnf
          refine ⟨fun h3 => ?_, fun h3 => ?_⟩
          · have h3 : x.kind = 3 := by simpa using h3
            have hen : x.enc = put x.s.length ++ x.s := by simp [Item.enc, h3]
            conv => arg 4; whnf
            refine ⟨x.av, ⟨by omega, hg⟩, ?_⟩
            conv => arg 4; whnf
            refine holds_out [0, 1] (wBytes (b := x.s) (l := a.w) (s := a.s) (bad := a.bad) (by omega)) rfl ⟨⟨by decide, by (try simp only [renO, renL, renL_u8s, ren, u8s_length]) <;> rfl⟩, ⟨by decide, rfl⟩, trivial⟩ (by (try simp only [renO, renL, renL_u8s, ren, u8s_length]) <;> rfl) ?_
            conv => arg 4; whnf
            simp only [renL_u8s]
            refine ⟨a.good hx hb (a.s + 2) hle, by show l.length - (a.i + 1) < l.length - a.i; omega, WkG.of rfl rfl ⟨Le.of_eq (succ_int (by omega)), Le.refl _ _, Le.refl _ _, trivial⟩ ⟨⟨_, rfl, by rw [← hen]; exact LeO.refl _ _⟩, ⟨_, rfl, rfl⟩, trivial⟩ ⟨rfl, rfl, cut_items l, trivial⟩ ⟨⟨by decide, by (try simp only [renO, renL, renL_u8s, ren, u8s_length]) <;> rfl⟩, ⟨by decide, rfl⟩, trivial⟩⟩
          · have h3 : x.kind ≠ 3 := by simpa using h3
            conv => arg 4; whnf
            refine ⟨fun h4 => ?_, fun h4 => ?_⟩
            · have h4 : x.kind = 4 := by simpa using h4
              have hen : x.enc = put x.s.length ++ x.s := by simp [Item.enc, h4]
              conv => arg 4; whnf
              refine ⟨x.av, ⟨by omega, hg⟩, ?_⟩
              conv => arg 4; whnf
              refine holds_out [0, 1] (wText (b := x.s) (l := a.w) (s := a.s) (bad := a.bad) (by omega)) rfl ⟨⟨by decide, by (try simp only [renO, renL, renL_u8s, ren, u8s_length]) <;> rfl⟩, ⟨by decide, rfl⟩, trivial⟩ (by (try simp only [renO, renL, renL_u8s, ren, u8s_length]) <;> rfl) ?_
              conv => arg 4; whnf
              simp only [renL_u8s]
              refine ⟨a.good hx hb (a.s + 2) hle, by show l.length - (a.i + 1) < l.length - a.i; omega, WkG.of rfl rfl ⟨Le.of_eq (succ_int (by omega)), Le.refl _ _, Le.refl _ _, trivial⟩ ⟨⟨_, rfl, by rw [← hen]; exact LeO.refl _ _⟩, ⟨_, rfl, rfl⟩, trivial⟩ ⟨rfl, rfl, cut_items l, trivial⟩ ⟨⟨by decide, by (try simp only [renO, renL, renL_u8s, ren, u8s_length]) <;> rfl⟩, ⟨by decide, rfl⟩, trivial⟩⟩
            · have h4 : x.kind ≠ 4 := by simpa using h4
              have hen : x.enc = [] := by simp [Item.enc, h1, h2, h3, h4]
              conv => arg 4; whnf
              refine ⟨a.good hx hb a.s hle, by show l.length - (a.i + 1) < l.length - a.i; omega, WkG.of rfl rfl ⟨Le.of_eq (succ_int (by omega)), Le.refl _ _, Le.refl _ _, trivial⟩ ⟨⟨_, rfl, by rw [show (a.good hx hb a.s hle).w = a.w from by simp [WrI.good, hen]]; exact LeO.refl _ _⟩, ⟨_, rfl, rfl⟩, trivial⟩ ⟨rfl, rfl, cut_items l, trivial⟩ ⟨⟨by decide, by (try simp only [renO, renL, renL_u8s, ren, u8s_length]) <;> rfl⟩, ⟨by decide, rfl⟩, trivial⟩⟩
    · have hi : a.i = l.length := by have := a.hi; simp [items] at h; omega
      conv => arg 4; whnf
      refine holds_out [0, 1] (wDone (l := a.w) (s := a.s) (bad := a.bad) (by omega)) rfl ⟨⟨by decide, by (try simp only [renO, renL, renL_u8s, ren, u8s_length]) <;> rfl⟩, ⟨by decide, rfl⟩, trivial⟩ (by (try simp only [renO, renL, renL_u8s, ren, u8s_length]) <;> rfl) ?_
      conv => arg 4; whnf
      simp only [renL_u8s]
      have hb := a.hb
      have hw := a.hw
      rw [hi, List.take_length] at hb hw
      have hok : (!a.bad) = isOk l := by
        unfold isOk
        cases hbad : a.bad with
        | true => simp [hb.1 hbad]
        | false =>
          have : ¬ ∃ x ∈ l, x.bad := fun h => by rw [hb.2 h] at hbad; cases hbad
          simp [this]
      refine ⟨a.w, a.s, a.bad, ?_, rfl, rfl⟩
      rw [hok]
      congr 3
      unfold bytesOf
      cases hbad : a.bad with
      | true => rw [← hok, hbad]; rfl
      | false => rw [← hok, hbad, hw hbad]; rfl

end Go.Proofs.Ytlcanameloklbaa

namespace Go.Proofs.Ytlcanameloklbaa
set_option maxRecDepth 100000
set_option maxHeartbeats 80000000
open Go.Sym

theorem encs_len {l : List Item} (h : ∀ x ∈ l, x.enc.length ≤ x.s.length + 10) : (encs l).length ≤ tot l := by
  induction l with
  | nil => simp [encs, tot]
  | cons x l ih =>
    have h1 := h x List.mem_cons_self
    have h2 := ih fun y hy => h y (List.mem_cons_of_mem _ hy)
    unfold encs tot at h2 ⊢
    simp only [List.map_cons, List.flatten_cons, List.length_append, List.sum_cons]
    omega

structure MdI (l : List Item) where
  i : Nat
  s : Nat
  hi : i ≤ l.length
  hb : ¬ ∃ x ∈ l.take i, x.bad

def MdI.next {l : List Item} (a : MdI l) {x : Item} (h : l[a.i]? = some x) (hx : ¬ x.bad) (s' : Nat) : MdI l where
  i := a.i + 1
  s := s'
  hi := (List.getElem?_eq_some_iff.1 h).1
  hb := by rw [bad_take h]; exact fun hh => hh.elim a.hb hx

theorem notOk {l : List Item} {i : Nat} {x : Item} (h : l[i]? = some x) (hx : x.bad) : isOk l = false := by
  unfold isOk
  have : ∃ x ∈ l, x.bad := ⟨x, List.mem_of_getElem? h, hx⟩
  simp [this]

theorem refFixed' {n size : Int} (hn : I64 n) (hf : Fits n size) :
    CallOK Try.prog 50 [.int .i64 n, .int .i64 size] [] 0 (Out (.sl .none 0 (u8s (fixed n.toNat size.toNat))) [] 0) := by
  obtain ⟨h1, h2, h3, h4⟩ := hf
  obtain ⟨m, rfl⟩ : ∃ m : Nat, n = m := ⟨n.toNat, by omega⟩
  obtain ⟨k, rfl⟩ : ∃ k : Nat, size = k := ⟨size.toNat, by omega⟩
  exact refFixed hn (by omega)

theorem shl_eq {size : Int} (h0 : 0 ≤ size) (hk : size < 8) : IntKind.i64.wrap (1 * 2 ^ (min (IntKind.i64.wrap (8 * size)).toNat IntKind.i64.bits)) = 256 ^ size.toNat := by
  obtain ⟨k, rfl⟩ : ∃ k : Nat, size = k := ⟨size.toNat, by omega⟩
  have e1 : IntKind.i64.wrap (8 * (k : Int)) = 8 * k := by rw [IntKind.wrap_i64]; omega
  have e2 : min (8 * (k : Int)).toNat IntKind.i64.bits = 8 * k := by have : IntKind.i64.bits = 64 := rfl; omega
  rw [e1, e2, Int.pow_mul]
  have hk' : k < 8 := by omega
  have : ∀ k : Nat, k < 8 → IntKind.i64.wrap (1 * ((2 : Int) ^ 8) ^ k) = 256 ^ k := by decide
  exact this k hk'

set_option maxRecDepth 100000 in
theorem made {l : List Item} (ho : ∀ x ∈ l, x.ok) (ht : tot l ≤ 1000000) :
    CallOK Try.prog 14 [.sl .none 4 (items l)] [] 0 (Out (.tup [.sl .none 0 (u8s (bytesOf l)), .bool (isOk l)]) [] 0) := by
  suffices hs : CallOK Try.prog 14 [.sl .none 4 (items l)] [] 0 (fun a h m => (isOk l = true ∧ ∃ s, Out (.tup [.sl (.tok 0 s) 0 (u8s (encs l)), .bl true]) [(0, .tip s)] 1 a h m) ∨ (isOk l = false ∧ ∃ s, Out (.tup [.nils, .bl false]) [(0, .tip s)] 1 a h m)) from
    hs.ghost fun a h m ho => by
      rcases ho with ⟨hk, s, e1, e2, e3⟩ | ⟨hk, s, e1, e2, e3⟩ <;> subst e1 <;> subst e2 <;> subst e3
      · exact ⟨_, [], 0, by omega, (Gh.le (h' := []) (fun _ => Le.tup (.cons Le.none (.cons Le.bl (LeL.nil _)))) (HeapLe.le trivial)).trans (Gh.drop (Nat.le_refl _) (fun _ => by simp only [ren, renL, renL_u8s, renP]) (HeapCut.get trivial)), by simp [bytesOf, hk], rfl, rfl⟩
      · exact ⟨_, [], 0, by omega, (Gh.le (h' := []) (fun _ => Le.tup (.cons Le.nils (.cons Le.bl (LeL.nil _)))) (HeapLe.le trivial)).trans (Gh.drop (Nat.le_refl _) (fun _ => by simp only [ren, renL, renP]) (HeapCut.get trivial)), by simp only [bytesOf, hk]; rfl, rfl, rfl⟩
  refine callOK Try.call14 Try.func14 Try.ntmps14 rfl ?_
  conv => arg 4; whnf
  refine tri_loopG (ι := MdI l) (fun x => ⟨[(5, .int .i64 x.i), (4, .sl (.tok 0 x.s) 0 (u8s (encs (l.take x.i)))), (0, .sl .none 4 (items l))], [(0, .tip x.s)], 1, 99⟩) (fun x => l.length - x.i) ⟨0, 0, Nat.zero_le _, by simp⟩ ?_ ?_
  · exact WkG.tok rfl rfl ⟨Le.refl _ _, Le.nilsTok rfl, Le.refl _ _, trivial⟩ ⟨⟨_, rfl, rfl⟩, trivial⟩ ⟨rfl, cut_ok rfl, cut_items l, trivial⟩ ⟨⟨by decide, rfl⟩, trivial⟩
  · intro a
    have ht' := tot_take_le l a.i
    have htl := tot_len l
    have hai := a.hi
    have hel : (encs (l.take a.i)).length ≤ tot (l.take a.i) := encs_len fun x hx => by
      have hm := List.mem_of_mem_take hx
      exact enc_len (ho x hm) (by have := tot_mem hm; omega)
    conv => arg 4; whnf
    refine ⟨fun h => ?_, fun h => ?_⟩
    · have hi : a.i < l.length := by simp [items] at h; omega
      obtain ⟨x, hx⟩ : ∃ x, l[a.i]? = some x := ⟨_, List.getElem?_eq_getElem hi⟩
      have hxm : x ∈ l := List.mem_of_getElem? hx
      have hxo := ho x hxm
      have hg := items_get hx
      have htm := tot_mem hxm
      have hle := enc_len hxo (by omega)
      conv => arg 4; whnf
      refine ⟨x.av, ⟨by omega, hg⟩, ?_⟩
      conv => arg 4; whnf
      refine ⟨fun h1 => ?_, fun h1 => ?_⟩
      · have h1 : x.kind = 1 := by simpa using h1
        conv => arg 4; whnf
        refine ⟨x.av, ⟨by omega, hg⟩, ?_⟩
        conv => arg 4; whnf
        refine ⟨fun q1 => ?_, fun q1 => ?_⟩
        · have hb : x.bad := ⟨h1, fun hf => by unfold Fits at hf; simp at q1; omega⟩
          conv => arg 4; whnf
          exact .inr ⟨notOk hx hb, a.s, rfl, rfl, rfl⟩
        have q1 : ¬ x.size < 1 := by simpa using q1
        conv => arg 4; whnf
        refine ⟨x.av, ⟨by omega, hg⟩, ?_⟩
        conv => arg 4; whnf
        refine ⟨fun q2 => ?_, fun q2 => ?_⟩
        · have hb : x.bad := ⟨h1, fun hf => by unfold Fits at hf; simp at q2; omega⟩
          conv => arg 4; whnf
          exact .inr ⟨notOk hx hb, a.s, rfl, rfl, rfl⟩
        have q2 : ¬ x.size > 8 := by simpa using q2
        conv => arg 4; whnf
        refine ⟨x.av, ⟨by omega, hg⟩, ?_⟩
        conv => arg 4; whnf
        refine ⟨fun q3 => ?_, fun q3 => ?_⟩
        · have hb : x.bad := ⟨h1, fun hf => by unfold Fits at hf; simp at q3; omega⟩
          conv => arg 4; whnf
          exact .inr ⟨notOk hx hb, a.s, rfl, rfl, rfl⟩
        have q3 : ¬ x.n < 0 := by simpa using q3
        conv => arg 4; whnf
        refine ⟨x.av, ⟨by omega, hg⟩, ?_⟩
        conv => arg 4; whnf
        refine ⟨fun q4 => ?_, fun q4 => ?_⟩
        · have q4 : x.size < 8 := by simpa using q4
          conv => arg 4; whnf
          refine ⟨x.av, ⟨by omega, hg⟩, ?_⟩
          conv => arg 4; whnf
          refine ⟨x.av, ⟨by omega, hg⟩, ?_⟩
          conv => arg 4; whnf
          refine ⟨by rw [IntKind.wrap_i64]; omega, ?_⟩
          conv => arg 4; whnf
          rw [shl_eq (by omega) q4]
          refine ⟨fun q5 => ?_, fun q5 => ?_⟩
          · have hb : x.bad := ⟨h1, fun hf => by have := hf.2.2.2 q4; simp at q5; omega⟩
            conv => arg 4; whnf
            exact .inr ⟨notOk hx hb, a.s, rfl, rfl, rfl⟩
          · have hf : Fits x.n x.size := ⟨by omega, by omega, by omega, fun _ => by simp at q5; omega⟩
            have hb : ¬ x.bad := fun h => h.2 hf
            have hen : x.enc = fixed x.n.toNat x.size.toNat := by simp [Item.enc, h1, hf]
            conv => arg 4; whnf
            refine ⟨x.av, ⟨by omega, hg⟩, ?_⟩
            conv => arg 4; whnf
            refine ⟨x.av, ⟨by omega, hg⟩, ?_⟩
            conv => arg 4; whnf
            refine holds_out [] (refFixed' hxo.2.1 hf) rfl trivial (by (try simp only [renO, renL, renL_u8s, ren, u8s_length]) <;> rfl) ?_
            conv => arg 4; whnf
            simp only [renL_u8s]
            refine ⟨⟨by first | rfl | trivial, sizeOk 1 rfl ?_⟩, ?_⟩
            · rw [← hen]; simp [u8s_length]; omega
            conv => arg 4; whnf
            refine ⟨a.next hx hb (a.s + 1), by show l.length - (a.i + 1) < l.length - a.i; omega, WkG.of rfl rfl ⟨Le.of_eq (succ_int (by omega)), Le.of_eq ?_, Le.refl _ _, trivial⟩ ⟨⟨_, rfl, rfl⟩, trivial⟩ ⟨rfl, cut_ok rfl, cut_items l, trivial⟩ ⟨⟨by decide, rfl⟩, trivial⟩⟩
            conv => lhs; whnf
            rw [← u8s_append, ← hen, ← encs_take hx]
            rfl
        · have q4 : ¬ x.size < 8 := by simpa using q4
          have hf : Fits x.n x.size := ⟨by omega, by omega, by omega, fun h => absurd h q4⟩
          have hb : ¬ x.bad := fun h => h.2 hf
          have hen : x.enc = fixed x.n.toNat x.size.toNat := by simp [Item.enc, h1, hf]
          conv => arg 4; whnf
          refine ⟨x.av, ⟨by omega, hg⟩, ?_⟩
          conv => arg 4; whnf
          refine ⟨x.av, ⟨by omega, hg⟩, ?_⟩
          conv => arg 4; whnf
          refine holds_out [] (refFixed' hxo.2.1 hf) rfl trivial (by (try simp only [renO, renL, renL_u8s, ren, u8s_length]) <;> rfl) ?_
          conv => arg 4; whnf
          simp only [renL_u8s]
          refine ⟨⟨by first | rfl | trivial, sizeOk 1 rfl ?_⟩, ?_⟩
          · rw [← hen]; simp [u8s_length]; omega
          conv => arg 4; whnf
          refine ⟨a.next hx hb (a.s + 1), by show l.length - (a.i + 1) < l.length - a.i; omega, WkG.of rfl rfl ⟨Le.of_eq (succ_int (by omega)), Le.of_eq ?_, Le.refl _ _, trivial⟩ ⟨⟨_, rfl, rfl⟩, trivial⟩ ⟨rfl, cut_ok rfl, cut_items l, trivial⟩ ⟨⟨by decide, rfl⟩, trivial⟩⟩
          conv => lhs; whnf
          rw [← u8s_append, ← hen, ← encs_take hx]
          rfl
      · have h1 : x.kind ≠ 1 := by simpa using h1
        have hb : ¬ x.bad := fun h => h1 h.1
        conv => arg 4; whnf
        refine ⟨fun h2 => ?_, fun h2 => ?_⟩
        · have h2 : x.kind = 2 := by simpa using h2
          have hen : x.enc = put x.n := by simp [Item.enc, h2]
          conv => arg 4; whnf
          refine ⟨x.av, ⟨by omega, hg⟩, ?_⟩
          conv => arg 4; whnf
          refine holds_out [] (refPut hxo.2.1) rfl trivial (by (try simp only [renO, renL, renL_u8s, ren, u8s_length]) <;> rfl) ?_
          conv => arg 4; whnf
          simp only [renL_u8s]
          refine ⟨⟨by first | rfl | trivial, sizeOk 1 rfl ?_⟩, ?_⟩
          · rw [← hen]; simp [u8s_length]; omega
          conv => arg 4; whnf
          refine ⟨a.next hx hb (a.s + 1), by show l.length - (a.i + 1) < l.length - a.i; omega, WkG.of rfl rfl ⟨Le.of_eq (succ_int (by omega)), Le.of_eq ?_, Le.refl _ _, trivial⟩ ⟨⟨_, rfl, rfl⟩, trivial⟩ ⟨rfl, cut_ok rfl, cut_items l, trivial⟩ ⟨⟨by decide, rfl⟩, trivial⟩⟩
          conv => lhs; whnf
          rw [← u8s_append, ← hen, ← encs_take hx]
          rfl
        · have h2 : x.kind ≠ 2 := by simpa using h2
          conv => arg 4; whnf
          refine ⟨fun h3 => ?_, fun h3 => ?_⟩
          · have h3 : x.kind = 3 := by simpa using h3
            have hen : x.enc = put x.s.length ++ x.s := by simp [Item.enc, h3]
            conv => arg 4; whnf
            refine ⟨fun _ => ?_, fun h => absurd h3 (by simpa using h)⟩
            conv => arg 4; whnf
            refine ⟨x.av, ⟨by omega, hg⟩, ?_⟩
            conv => arg 4; whnf
            refine holds_out [] (refText (b := x.s) (by omega)) rfl trivial (by (try simp only [renO, renL, renL_u8s, ren, u8s_length]) <;> rfl) ?_
            conv => arg 4; whnf
            simp only [renL_u8s]
            refine ⟨⟨by first | rfl | trivial, sizeOk 1 rfl ?_⟩, ?_⟩
            · rw [← hen]; simp [u8s_length]; omega
            conv => arg 4; whnf
            refine ⟨a.next hx hb (a.s + 1), by show l.length - (a.i + 1) < l.length - a.i; omega, WkG.of rfl rfl ⟨Le.of_eq (succ_int (by omega)), Le.of_eq ?_, Le.refl _ _, trivial⟩ ⟨⟨_, rfl, rfl⟩, trivial⟩ ⟨rfl, cut_ok rfl, cut_items l, trivial⟩ ⟨⟨by decide, rfl⟩, trivial⟩⟩
            conv => lhs; whnf
            rw [← u8s_append, ← hen, ← encs_take hx]
            rfl
          · have h3 : x.kind ≠ 3 := by simpa using h3
            conv => arg 4; whnf
            refine ⟨fun h4 => ?_, fun h4 => ?_⟩
            · have h4 : x.kind = 4 := by simpa using h4
              have hen : x.enc = put x.s.length ++ x.s := by simp [Item.enc, h4]
              conv => arg 4; whnf
              refine ⟨x.av, ⟨by omega, hg⟩, ?_⟩
              conv => arg 4; whnf
              refine holds_out [] (refText (b := x.s) (by omega)) rfl trivial (by (try simp only [renO, renL, renL_u8s, ren, u8s_length]) <;> rfl) ?_
              conv => arg 4; whnf
              simp only [renL_u8s]
              refine ⟨⟨by first | rfl | trivial, sizeOk 1 rfl ?_⟩, ?_⟩
              · rw [← hen]; simp [u8s_length]; omega
              conv => arg 4; whnf
              refine ⟨a.next hx hb (a.s + 1), by show l.length - (a.i + 1) < l.length - a.i; omega, WkG.of rfl rfl ⟨Le.of_eq (succ_int (by omega)), Le.of_eq ?_, Le.refl _ _, trivial⟩ ⟨⟨_, rfl, rfl⟩, trivial⟩ ⟨rfl, cut_ok rfl, cut_items l, trivial⟩ ⟨⟨by decide, rfl⟩, trivial⟩⟩
              conv => lhs; whnf
              rw [← u8s_append, ← hen, ← encs_take hx]
              rfl
            · have h4 : x.kind ≠ 4 := by simpa using h4
              have hen : x.enc = [] := by simp [Item.enc, h1, h2, h3, h4]
              conv => arg 4; whnf
              refine ⟨a.next hx hb a.s, by show l.length - (a.i + 1) < l.length - a.i; omega, WkG.of rfl rfl ⟨Le.of_eq (succ_int (by omega)), Le.of_eq ?_, Le.refl _ _, trivial⟩ ⟨⟨_, rfl, rfl⟩, trivial⟩ ⟨rfl, cut_ok rfl, cut_items l, trivial⟩ ⟨⟨by decide, rfl⟩, trivial⟩⟩
              conv => lhs; whnf
              have he := encs_take hx
              rw [hen, List.append_nil] at he
              rw [← he]
              rfl
    · have hi : a.i = l.length := by simp [items] at h; omega
      have hb := a.hb
      rw [hi, List.take_length] at hb
      conv => arg 4; whnf
      refine .inl ⟨by simp only [isOk, hb, not_false_eq_true, decide_true], a.s, ?_, rfl, rfl⟩
      rw [hi, List.take_length]
end Go.Proofs.Ytlcanameloklbaa

namespace Go.Proofs.Ytlcanameloklbaa
set_option maxRecDepth 100000
set_option maxHeartbeats 80000000
open Go.Sym

def isum (n : Int) : List Int → Int
  | [] => n
  | x :: r => if n > 1099511627776 ∨ x > 1099511627776 - n then 1099511627776 else isum (n + x) r

def ints (l : List Int) : List AV := l.map fun x => .int .i64 x

structure SumI (n0 : Int) (xs : List Int) where
  i : Nat
  n : Int
  h : isum n (xs.drop i) = isum n0 xs
  hn : 0 ≤ n ∧ n ≤ 1099511627776
  hi : i ≤ xs.length

theorem ren_ints (ρ : Nat → Nat) (l : List Int) : renL ρ (ints l) = ints l := by
  induction l with
  | nil => rfl
  | cons x l ih => show ren ρ (.int .i64 x) :: renL ρ (ints l) = .int .i64 x :: ints l; rw [ih]; rfl

theorem sum {n : Int} {xs : List Int} (hn : 0 ≤ n ∧ n ≤ 1099511627776) (hx : ∀ x ∈ xs, 0 ≤ x) (hl : xs.length ≤ 1000) :
    CallOK Try.prog 47 [.int .i64 n, .sl .none 0 (ints xs)] [] 0 (Out (.int .i64 (isum n xs)) [] 0) := by
  refine callOK Try.call47 Try.func47 Try.ntmps47 rfl ?_
  conv => arg 4; whnf
  refine tri_loopG (ι := SumI n xs) (fun a => ⟨[(5, .int .i64 a.i), (0, .int .i64 a.n), (1, .sl .none 0 (ints xs))], [], 0, 30⟩) (fun a => xs.length - a.i) ⟨0, n, rfl, hn, Nat.zero_le _⟩ ?_ ?_
  · exact WkG.of rfl rfl ⟨Le.refl _ _, Le.refl _ _, Le.refl _ _, trivial⟩ trivial ⟨rfl, rfl, by show AV.sl .none 0 (renL _ (ints xs)) = _; rw [ren_ints], trivial⟩ trivial
  · intro a
    have hi := a.hi
    have hh := a.h
    have hn := a.hn
    conv => arg 4; whnf
    refine ⟨fun h => ?_, fun h => ?_⟩
    · have hi : a.i < xs.length := by simp [ints] at h; omega
      have hg : (ints xs)[((a.i : Nat) : Int).toNat]? = some (.int .i64 xs[a.i]) := by simp [ints, hi]
      have hx := hx xs[a.i] (List.getElem_mem hi)
      have hd : xs.drop a.i = xs[a.i] :: xs.drop (a.i + 1) := List.drop_eq_getElem_cons hi
      rw [hd] at hh
      simp only [isum] at hh
      conv => arg 4; whnf
      refine ⟨_, ctxP_of ⟨by omega, hg⟩, ?_⟩
      conv => arg 4; whnf
      refine ⟨fun q => ?_, fun q => ?_⟩
      · conv => arg 4; whnf
        refine ⟨?_, rfl, rfl⟩
        have : a.n > 1099511627776 ∨ xs[a.i] > 1099511627776 - a.n := by
          by_cases q1 : a.n > 1099511627776
          · exact .inl q1
          · simp [q1, IntKind.wrap_i64] at q; omega
        rw [if_pos this] at hh
        rw [hh]
      · have hno : ¬ (a.n > 1099511627776 ∨ xs[a.i] > 1099511627776 - a.n) := by
          by_cases q1 : a.n > 1099511627776
          · omega
          · simp [q1, IntKind.wrap_i64] at q; omega
        rw [if_neg hno] at hh
        conv => arg 4; whnf
        refine ⟨_, ⟨by omega, hg⟩, ?_⟩
        conv => arg 4; whnf
        refine ⟨⟨a.i + 1, a.n + xs[a.i], hh, by omega, by omega⟩, by show xs.length - (a.i + 1) < xs.length - a.i; omega, WkG.of rfl rfl ⟨Le.of_eq (succ_int (by omega)), Le.of_eq ?_, Le.refl _ _, trivial⟩ trivial ⟨rfl, rfl, by show AV.sl .none 0 (renL _ (ints xs)) = _; rw [ren_ints], trivial⟩ trivial⟩
        conv => lhs; whnf
        rw [IntKind.wrap_i64]
        congr 1
        show _ = a.n + xs[a.i]
        omega
    · have hi' : a.i = xs.length := by simp [ints] at h; omega
      rw [hi', List.drop_length] at hh
      conv => arg 4; whnf
      refine ⟨?_, rfl, rfl⟩
      rw [← hh]
      rfl

structure SmI (l : List Item) where
  i : Nat
  n : Int
  hn : 0 ≤ n ∧ n ≤ 1099511627776
  hi : i ≤ l.length
  h : n ≤ 1000 → n = tot (l.take i)

theorem small {l : List Item} :
    CallOK Try.prog 11 [.sl .none 4 (items l)] [] 0 (fun a h m => ∃ b, Out (.bool b) [] 0 a h m ∧ (b = true → tot l ≤ 1000)) := by
  refine callOK Try.call11 Try.func11 Try.ntmps11 rfl ?_
  conv => arg 4; whnf
  refine tri_loopG (ι := SmI l) (fun a => ⟨[(4, .int .i64 a.i), (3, .int .i64 a.n), (0, .sl .none 4 (items l))], [], 0, 26⟩) (fun a => l.length - a.i) ⟨0, 0, by omega, Nat.zero_le _, fun _ => by simp [tot]⟩ ?_ ?_
  · exact WkG.of rfl rfl ⟨Le.refl _ _, Le.refl _ _, Le.refl _ _, trivial⟩ trivial ⟨rfl, rfl, cut_items l, trivial⟩ trivial
  · intro a
    have hi := a.hi
    have hh := a.h
    have hn := a.hn
    conv => arg 4; whnf
    refine ⟨fun h => ?_, fun h => ?_⟩
    · have hi : a.i < l.length := by simp [items] at h; omega
      have hk : a.n ≤ 1000 := by simp [items] at h; omega
      have hh := hh hk
      have htl := tot_len (l.take a.i)
      simp only [List.length_take] at htl
      obtain ⟨x, hx⟩ : ∃ x, l[a.i]? = some x := ⟨_, List.getElem?_eq_getElem hi⟩
      have hg := items_get hx
      have htk := tot_take hx
      conv => arg 4; whnf
      refine ⟨x.av, ⟨by omega, hg⟩, ?_⟩
      conv => arg 4; whnf
      refine holds_args (args' := [.int .i64 a.n, .sl .none 0 (ints [(x.s.length : Int), 10])]) ⟨Le.refl _ _, Le.none, trivial⟩ (holds_out [] (sum (n := a.n) (xs := [(x.s.length : Int), 10]) hn (by intro y hy; simp at hy; omega) (by simp)) rfl trivial rfl ?_)
      conv => arg 4; whnf
      have hs : isum a.n [(x.s.length : Int), 10] = if a.n > 1099511627776 ∨ (x.s.length : Int) > 1099511627776 - a.n then 1099511627776 else if a.n + x.s.length > 1099511627776 ∨ (10 : Int) > 1099511627776 - (a.n + x.s.length) then 1099511627776 else a.n + x.s.length + 10 := rfl
      refine ⟨⟨a.i + 1, isum a.n [(x.s.length : Int), 10], by rw [hs]; split <;> (try split) <;> omega, by omega, fun hle => ?_⟩, by show l.length - (a.i + 1) < l.length - a.i; omega, WkG.of rfl rfl ⟨Le.of_eq (succ_int (by omega)), Le.refl _ _, Le.refl _ _, trivial⟩ trivial ⟨rfl, rfl, cut_items l, trivial⟩ trivial⟩
      rw [htk]
      rw [hs] at hle ⊢
      split at hle
      · omega
      · rename_i c1
        rw [if_neg c1]
        split at hle
        · omega
        · rename_i c2
          rw [if_neg c2]
          omega
    · conv => arg 4; whnf
      refine ⟨_, ⟨rfl, rfl, rfl⟩, fun hb => ?_⟩
      simp only [decide_eq_true_eq] at hb
      have hi' : a.i = l.length := by simp [items] at h; omega
      have := hh hb
      rw [hi', List.take_length] at this
      omega
end Go.Proofs.Ytlcanameloklbaa

namespace Go.Proofs.Ytlcanameloklbaa
set_option maxRecDepth 100000
set_option maxHeartbeats 80000000
open Go.Sym

/-- A reader's object. -/
abbrev RH (b : List UInt8) (e : Int) : Heap := [(0, .cells [.sl .none 0 (u8s b), .int .i64 e])]

theorem ren_RH (nx : Nat) (b : List UInt8) (e : Int) : renO (rho nx [0]) (.cells [.sl .none 0 (u8s b), .int .i64 e]) = .cells [.sl .none 0 (u8s b), .int .i64 e] := by
  simp only [renO, renL, renL_u8s, ren, renP]

theorem rErr {b : List UInt8} {e : Int} : CallOK Try.prog 27 [.ptr 0 0] (RH b e) 1 (Out (.int .i64 e) (RH b e) 1) := by
  refine callOK Try.call27 Try.func27 Try.ntmps27 rfl ?_
  conv => arg 4; whnf
  exact ⟨rfl, rfl, rfl⟩

theorem rFails {b : List UInt8} {e f : Int} : CallOK Try.prog 55 [.ptr 0 0, .int .i64 f] (RH b e) 1 (Out (.tup []) (RH b (if e = 0 then f else e)) 1) := by
  refine callOK Try.call55 Try.func55 Try.ntmps55 rfl ?_
  conv => arg 4; whnf
  refine holds_out [0] (rErr (b := b) (e := e)) rfl ⟨⟨by decide, by rw [ren_RH]; rfl⟩, trivial⟩ rfl ?_
  conv => arg 4; whnf
  simp only [renL_u8s]
  refine ⟨fun h => ?_, fun h => ?_⟩
  · have h : e = 0 := by simpa using h
    conv => arg 4; whnf
    exact ⟨rfl, by rw [if_pos h], rfl⟩
  · have h : e ≠ 0 := by simpa using h
    conv => arg 4; whnf
    exact ⟨rfl, by rw [if_neg h], rfl⟩

theorem newReader {b : List UInt8} (hb : b.length ≤ 100000000000000) : CallOK Try.prog 17 [.sl .none 0 (u8s b)] [] 0 (Out (.ptr 0 0) (RH b 0) 1) := by
  refine callOK Try.call17 Try.func17 Try.ntmps17 rfl ?_
  conv => arg 4; whnf
  refine holds_out [] (clone hb) rfl trivial (by (try simp only [renO, renL, renL_u8s, ren, u8s_length]) <;> rfl) ?_
  conv => arg 4; whnf
  simp only [renL_u8s]
  exact ⟨rfl, rfl, rfl⟩

theorem u8s_take (l : List UInt8) (n : Nat) : (u8s l).take n = u8s (l.take n) := by simp [u8s]
theorem u8s_drop (l : List UInt8) (n : Nat) : (u8s l).drop n = u8s (l.drop n) := by simp [u8s]

/-- What is taken from the front. -/
theorem rTakes {b : List UInt8} {e : Int} {n : Nat} (hb : b.length ≤ 100000000000000) (hn : n ≤ 100000000000000) : CallOK Try.prog 56 [.ptr 0 0, .int .i64 n] (RH b e) 1
    (if e ≠ 0 then Out (.sl .none 0 (u8s [])) (RH b e) 1 else if n > b.length then Out (.sl .none 0 (u8s [])) (RH b 2) 1 else Out (.sl .none 0 (u8s (b.take n))) (RH (b.drop n) e) 1) := by
  refine CallOK.ghost (K := fun a h m => (e ≠ 0 ∧ Out .nils (RH b e) 1 a h m) ∨ (e = 0 ∧ n > b.length ∧ Out .nils (RH b 2) 1 a h m) ∨ (e = 0 ∧ ¬ n > b.length ∧ Out (.sl .none 0 (u8s (b.take n))) (RH (b.drop n) e) 1 a h m)) ?_ ?_
  · refine callOK Try.call56 Try.func56 Try.ntmps56 rfl ?_
    conv => arg 4; whnf
    refine holds_out [0] (rErr (b := b) (e := e)) rfl ⟨⟨by decide, by rw [ren_RH]; rfl⟩, trivial⟩ rfl ?_
    conv => arg 4; whnf
    simp only [renL_u8s]
    refine ⟨fun h => ?_, fun h => ?_⟩
    · have h : e ≠ 0 := by simpa using h
      conv => arg 4; whnf
      exact .inl ⟨h, rfl, rfl, rfl⟩
    · have h : e = 0 := by simpa using h
      conv => arg 4; whnf
      refine ⟨fun q => ?_, fun q => ?_⟩
      · have q : n > b.length := by simp [u8s_length] at q; omega
        conv => arg 4; whnf
        refine holds_out [0] (rFails (b := b) (e := e) (f := 2)) rfl ⟨⟨by decide, by rw [ren_RH]; rfl⟩, trivial⟩ rfl ?_
        conv => arg 4; whnf
        simp only [renL_u8s]
        exact .inr (.inl ⟨h, q, rfl, by rw [if_pos h], rfl⟩)
      · have q : ¬ n > b.length := by simp [u8s_length] at q; omega
        conv => arg 4; whnf
        refine ⟨by simp [u8s_length]; omega, ?_⟩
        simp only [Int.toNat_natCast, u8s_take]
        conv => arg 4; whnf
        refine holds_out [] (clone (l := b.take n) (by simp; omega)) rfl trivial (by (try simp only [renO, renL, renL_u8s, ren, u8s_length]) <;> rfl) ?_
        conv => arg 4; whnf
        refine ⟨by simp [u8s_length]; omega, ?_⟩
        simp only [Int.toNat_natCast, u8s_drop]
        conv => arg 4; whnf
        simp only [renL_u8s]
        exact .inr (.inr ⟨h, q, rfl, rfl, rfl⟩)
  · rintro a h m (⟨h1, e1, e2, e3⟩ | ⟨h1, h2, e1, e2, e3⟩ | ⟨h1, h2, e1, e2, e3⟩) <;> subst e1 <;> subst e2 <;> subst e3
    · exact ⟨_, _, _, by omega, Gh.le (fun _ => Le.nils) (fun id o hg => ⟨o, hg, LeO.refl _ _⟩), by rw [if_pos h1]; exact ⟨rfl, rfl, rfl⟩⟩
    · exact ⟨_, _, _, by omega, Gh.le (fun _ => Le.nils) (fun id o hg => ⟨o, hg, LeO.refl _ _⟩), by rw [if_neg (by simp [h1]), if_pos h2]; exact ⟨rfl, rfl, rfl⟩⟩
    · exact ⟨_, _, _, by omega, .refl _ _ _ _, by rw [if_neg (by simp [h1]), if_neg h2]; exact ⟨rfl, rfl, rfl⟩⟩

theorem rLeft {b : List UInt8} {e : Int} : CallOK Try.prog 26 [.ptr 0 0] (RH b e) 1 (Out (.int .i64 (if e = 0 then b.length else 0)) (RH b e) 1) := by
  refine callOK Try.call26 Try.func26 Try.ntmps26 rfl ?_
  conv => arg 4; whnf
  refine holds_out [0] (rErr (b := b) (e := e)) rfl ⟨⟨by decide, by rw [ren_RH]; rfl⟩, trivial⟩ rfl ?_
  conv => arg 4; whnf
  simp only [renL_u8s]
  refine ⟨fun h => ?_, fun h => ?_⟩
  · have h : e ≠ 0 := by simpa using h
    conv => arg 4; whnf
    exact ⟨by rw [if_neg h], rfl, rfl⟩
  · have h : e = 0 := by simpa using h
    conv => arg 4; whnf
    exact ⟨by rw [if_pos h, u8s_length b], rfl, rfl⟩

end Go.Proofs.Ytlcanameloklbaa

namespace Go.Proofs.Ytlcanameloklbaa
set_option maxRecDepth 100000
set_option maxHeartbeats 80000000
open Go.Sym

/-- A number with its sign. -/
def zag (u : Nat) : Int := if u % 2 = 1 then -((u / 2 : Nat) : Int) - 1 else ((u / 2 : Nat) : Int)

theorem zag_zig {n : Int} (h : I64 n) : zag (zig n) = n := by
  unfold I64 at h
  unfold zag zig
  split
  · have e1 : (-2 * n - 1).toNat % 2 = 1 := by omega
    rw [if_pos e1]; omega
  · have e1 : ¬ (2 * n).toNat % 2 = 1 := by omega
    rw [if_neg e1]; omega

theorem zag_range {u : Nat} (h : u < 18446744073709551616) : I64 (zag u) := by
  unfold I64 zag
  split <;> omega

/-- The bytes' number, and how many they are. -/
def getL (i u : Nat) : List UInt8 → Option (Nat × Nat)
  | [] => none
  | c :: r => if i = 9 ∧ c.toNat > 1 ∨ i ≥ 10 then none
    else if c.toNat ≥ 128 then getL (i + 1) (u + c.toNat % 128 * 128 ^ i) r
    else if c.toNat = 0 ∧ i > 0 then none
    else some (u + c.toNat % 128 * 128 ^ i, i + 1)

theorem bt_toNat {n : Nat} (h : n < 256) : (bt n).toNat = n := by
  unfold bt
  simp
  omega

/-- What was written is read. -/
theorem getL_put : ∀ (i u v : Nat) (r : List UInt8), i ≤ 9 → v * 128 ^ i < 18446744073709551616 → (i = 0 ∨ 0 < v) → getL i u (putU v ++ r) = some (u + v * 128 ^ i, i + (putU v).length) := by
  intro i u v
  induction v using Nat.strongRecOn generalizing i u with
  | ind v ih =>
    intro r hi hv h0
    by_cases hs : v < 128
    · rw [putU_small hs]
      simp only [List.cons_append, List.nil_append, getL, bt_toNat (show v < 256 by omega), List.length_cons, List.length_nil]
      have c1 : ¬ (i = 9 ∧ v > 1 ∨ i ≥ 10) := by
        rintro (⟨rfl, h⟩ | h)
        · have : (128 : Nat) ^ 9 = 9223372036854775808 := by decide
          rw [this] at hv; omega
        · omega
      rw [if_neg c1, if_neg (by omega), if_neg (by omega)]
      rw [Nat.mod_eq_of_lt hs]
    · rw [putU_big hs]
      simp only [List.cons_append, getL, bt_toNat (show v % 128 + 128 < 256 by omega), List.length_cons]
      have hi9 : i < 9 := by
        rcases Nat.lt_or_ge i 9 with h | h
        · exact h
        · obtain rfl : i = 9 := by omega
          have : (128 : Nat) ^ 9 = 9223372036854775808 := by decide
          rw [this] at hv; omega
      rw [if_neg (by omega), if_pos (by omega)]
      have e1 : (v % 128 + 128) % 128 = v % 128 := by omega
      have e2 : v / 128 * 128 ^ (i + 1) = v / 128 * 128 * 128 ^ i := by rw [Nat.pow_succ]; rw [Nat.mul_comm (128 ^ i) 128, Nat.mul_assoc]
      have e3 : v / 128 * 128 * 128 ^ i ≤ v * 128 ^ i := Nat.mul_le_mul_right _ (by omega)
      rw [ih (v / 128) (by omega) (i + 1) _ r (by omega) (by rw [e2]; omega) (.inr (by omega))]
      congr 1
      rw [e1, e2, Nat.add_assoc, ← Nat.add_mul]
      have : v % 128 + v / 128 * 128 = v := by omega
      rw [this]
      congr 1
      omega

theorem tmod_nat (a b : Nat) : (a : Int).tmod b = ((a % b : Nat) : Int) := rfl
theorem tdiv_nat (a b : Nat) : (a : Int).tdiv b = ((a / b : Nat) : Int) := rfl

theorem refZag {u : Nat} (hu : u < 18446744073709551616) : CallOK Try.prog 57 [.int .u64 u] [] 0 (Out (.int .i64 (zag u)) [] 0) := by
  have e1 : (u : Int).tmod 2 = ((u % 2 : Nat) : Int) := tmod_nat u 2
  have e2 : (u : Int).tdiv 2 = ((u / 2 : Nat) : Int) := tdiv_nat u 2
  refine callOK Try.call57 Try.func57 Try.ntmps57 rfl ?_
  conv => arg 4; whnf
  refine ⟨by decide, ?_⟩; conv => arg 4; whnf
  refine ⟨fun h => ?_, fun h => ?_⟩
  · have h : u % 2 = 1 := by rw [e1] at h; simp at h; omega
    conv => arg 4; whnf
    refine ⟨by decide, ?_⟩; conv => arg 4; whnf
    refine ⟨?_, rfl, rfl⟩
    unfold zag
    rw [if_pos h, e2]
    congr 1
    simp only [IntKind.wrap_i64, IntKind.wrap_u64]
    omega
  · have h : ¬ u % 2 = 1 := by rw [e1] at h; simp at h; omega
    conv => arg 4; whnf
    refine ⟨by decide, ?_⟩; conv => arg 4; whnf
    refine ⟨?_, rfl, rfl⟩
    unfold zag
    rw [if_neg h, e2]
    congr 1
    simp only [IntKind.wrap_i64, IntKind.wrap_u64]
    omega

theorem and_one (u : Nat) (hu : u < 18446744073709551616) : (BitVec.ofNat 64 u &&& BitVec.ofNat 64 1).toNat = u % 2 := by
  rw [BitVec.toNat_and]
  simp only [BitVec.toNat_ofNat]
  rw [Nat.mod_eq_of_lt (show u < 2 ^ 64 by omega), Nat.mod_eq_of_lt (show 1 < 2 ^ 64 by omega)]
  exact Nat.and_one_is_mod u

theorem zag_bits {u : Nat} (hu : u < 18446744073709551616) : IntKind.i64.wrap ((BitVec.ofInt IntKind.i64.bits (IntKind.i64.wrap ((u : Int).fdiv (2 ^ min (Int.toNat 1) IntKind.u64.bits))) ^^^
    BitVec.ofInt IntKind.i64.bits (IntKind.i64.wrap (0 - IntKind.i64.wrap (IntKind.u64.wrap ((BitVec.ofInt IntKind.u64.bits (u : Int) &&& BitVec.ofInt IntKind.u64.bits 1).toNat : Int))))).toNat : Int) = zag u := by
  have e1 : (2 : Int) ^ (min (1 : Int).toNat IntKind.u64.bits) = 2 := by decide
  have e3 : IntKind.u64.bits = 64 := rfl
  have e4 : IntKind.i64.bits = 64 := rfl
  have e5 : BitVec.ofInt 64 1 = BitVec.ofNat 64 1 := by decide
  have e6 : (u : Int).fdiv 2 = ((u / 2 : Nat) : Int) := by rw [Int.fdiv_eq_ediv_of_nonneg _ (by omega)]; omega
  have e7 : IntKind.i64.wrap ((u / 2 : Nat) : Int) = ((u / 2 : Nat) : Int) := by rw [IntKind.wrap_i64]; omega
  rw [e1, e3, e4, e5, e6, e7, ofInt_nat, ofInt_nat, and_one u hu]
  unfold zag
  by_cases h : u % 2 = 1
  · rw [if_pos h, h]
    have e8 : IntKind.i64.wrap (0 - IntKind.i64.wrap (IntKind.u64.wrap ((1 : Nat) : Int))) = -1 := by decide
    have e9 : BitVec.ofInt 64 (-1) = BitVec.ofNat 64 18446744073709551615 := by decide
    rw [e8, e9, xor_ones _ (by omega), IntKind.wrap_i64]
    omega
  · have h0 : u % 2 = 0 := by omega
    rw [if_neg h, h0]
    have e8 : IntKind.i64.wrap (0 - IntKind.i64.wrap (IntKind.u64.wrap ((0 : Nat) : Int))) = 0 := by decide
    have e9 : BitVec.ofInt 64 0 = 0#64 := by decide
    rw [e8, e9, BitVec.xor_zero, IntKind.wrap_i64]
    simp
    omega

theorem numZag {u : Nat} (hu : u < 18446744073709551616) : CallOK Try.prog 77 [.int .u64 u] [] 0 (Out (.int .i64 (zag u)) [] 0) := by
  refine callOK Try.call77 Try.func77 Try.ntmps77 rfl ?_
  conv => arg 4; whnf
  refine ⟨by decide, ?_⟩; conv => arg 4; whnf
  refine ⟨?_, rfl, rfl⟩
  rw [zag_bits hu]
end Go.Proofs.Ytlcanameloklbaa

namespace Go.Proofs.Ytlcanameloklbaa
set_option maxRecDepth 100000
set_option maxHeartbeats 80000000
open Go.Sym

theorem and127 (x : Nat) (h : x < 256) : (BitVec.ofNat 8 x &&& BitVec.ofNat 8 127).toNat = x % 128 := by
  have h1 : ∀ y : BitVec 8, (y &&& BitVec.ofNat 8 127).toNat = y.toNat % 128 := by decide
  rw [h1]; simp
  first | done | omega

theorem or_step {u i : Nat} {c : UInt8} (hu : u < 128 ^ i) (hi : i < 9 ∨ i = 9 ∧ c.toNat ≤ 1) :
    IntKind.u64.wrap (BitVec.ofInt IntKind.u64.bits (u : Int) ||| BitVec.ofInt IntKind.u64.bits (IntKind.u64.wrap ((IntKind.u64.wrap (IntKind.u8.wrap ((BitVec.ofInt IntKind.u8.bits (c.toNat : Int) &&& BitVec.ofInt IntKind.u8.bits 127).toNat : Int))) * 2 ^ (min (IntKind.i64.wrap (7 * (i : Int))).toNat IntKind.u64.bits)))).toNat = ((u + c.toNat % 128 * 128 ^ i : Nat) : Int) := by
  have hc : c.toNat < 256 := c.toNat_lt
  have e3 : IntKind.u64.bits = 64 := rfl
  have e4 : IntKind.u8.bits = 8 := rfl
  have e5 : BitVec.ofInt 8 127 = BitVec.ofNat 8 127 := by decide
  have e6 : IntKind.i64.wrap (7 * (i : Int)) = ((7 * i : Nat) : Int) := by rw [IntKind.wrap_i64]; omega
  have e7 : min (((7 * i : Nat) : Int)).toNat 64 = 7 * i := by omega
  have e8 : (2 : Int) ^ (7 * i) = ((128 ^ i : Nat) : Int) := by rw [Int.pow_mul]; simp
  have e9 : IntKind.u64.wrap (IntKind.u8.wrap ((c.toNat % 128 : Nat) : Int)) = ((c.toNat % 128 : Nat) : Int) := by simp only [IntKind.wrap_u64, IntKind.wrap_u8]; omega
  have hb : c.toNat % 128 * 128 ^ i + 128 ^ i ≤ 18446744073709551616 := by
    rcases hi with h | ⟨rfl, h⟩
    · have h1 : 128 ^ i ≤ 128 ^ 8 := Nat.pow_le_pow_right (by omega) (by omega)
      have h2 : (128 : Nat) ^ 8 = 72057594037927936 := by decide
      have h3 : c.toNat % 128 * 128 ^ i ≤ 127 * 128 ^ i := Nat.mul_le_mul_right _ (by omega)
      omega
    · have h2 : (128 : Nat) ^ 9 = 9223372036854775808 := by decide
      rw [h2]; omega
  rw [e3, e4, e5, ofInt_nat 8 c.toNat, and127 _ hc, e9, e6, e7, e8]
  have e10 : ((c.toNat % 128 : Nat) : Int) * ((128 ^ i : Nat) : Int) = ((c.toNat % 128 * 128 ^ i : Nat) : Int) := by simp
  have e11 : IntKind.u64.wrap ((c.toNat % 128 * 128 ^ i : Nat) : Int) = ((c.toNat % 128 * 128 ^ i : Nat) : Int) := by rw [IntKind.wrap_u64]; have := Nat.pow_pos (n := i) (show 0 < 128 by omega); omega
  rw [e10, e11, ofInt_nat, ofInt_nat]
  have e12 : (BitVec.ofNat 64 u ||| BitVec.ofNat 64 (c.toNat % 128 * 128 ^ i)).toNat = u + c.toNat % 128 * 128 ^ i := by
    have hp := Nat.pow_pos (n := i) (show 0 < 128 by omega)
    rw [BitVec.toNat_or]
    simp only [BitVec.toNat_ofNat]
    rw [Nat.mod_eq_of_lt (show u < 2 ^ 64 by omega), Nat.mod_eq_of_lt (show c.toNat % 128 * 128 ^ i < 2 ^ 64 by omega)]
    have e13 : 128 ^ i = 2 ^ (7 * i) := by rw [Nat.pow_mul]
    rw [e13] at hu ⊢
    rw [Nat.or_comm, ← Nat.shiftLeft_eq, ← Nat.shiftLeft_add_eq_or_of_lt hu, Nat.add_comm]
  rw [e12, IntKind.wrap_u64]
  omega

theorem sh7 {i : Nat} (h : i ≤ 9) : 0 ≤ IntKind.i64.wrap (7 * (i : Int)) := by
  rw [IntKind.wrap_i64, Int.emod_eq_of_lt (by omega) (by omega)]
  omega

structure GetI (b : List UInt8) where
  i : Nat
  u : Nat
  hi : i ≤ b.length
  hu : u < 128 ^ i
  h : getL i u (b.drop i) = getL 0 0 b

def getA (b : List UInt8) : AV :=
  match getL 0 0 b with
  | some (u, k) => .tup [.int .i64 (zag u), .int .i64 k, .int .i64 0]
  | none => .tup [.int .i64 0, .int .i64 0, .int .i64 2]

set_option maxRecDepth 100000 in
theorem numGet {b : List UInt8} (hb : b.length ≤ 100000000000000) : CallOK Try.prog 58 [.sl .none 0 (u8s b)] [] 0 (Out (getA b) [] 0) := by
  refine callOK Try.call58 Try.func58 Try.ntmps58 rfl ?_
  conv => arg 4; whnf
  refine tri_loopG (ι := GetI b) (fun a => ⟨[(10, .int .i64 a.i), (9, .int .i64 b.length), (8, .sl .none 0 (u8s b)), (5, .int .u64 a.u)], [], 0, 46⟩) (fun a => b.length - a.i) ⟨0, 0, Nat.zero_le _, by simp, rfl⟩ ?_ ?_
  · refine WkG.of rfl rfl ⟨Le.refl _ _, Le.of_eq ?_, Le.refl _ _, Le.refl _ _, trivial⟩ trivial ⟨rfl, rfl, cut_ok rfl, rfl, trivial⟩ trivial
    conv => lhs; whnf
    rw [u8s_length]
  · intro a
    have hh := a.h
    have hu := a.hu
    conv => arg 4; whnf
    refine ⟨fun h => ?_, fun h => ?_⟩
    · have hi : a.i < b.length := by simp at h; omega
      have hg : (u8s b)[((a.i : Nat) : Int).toNat]? = some (u8 b[a.i]) := by simp [u8s, hi]
      have hd : b.drop a.i = b[a.i] :: b.drop (a.i + 1) := List.drop_eq_getElem_cons hi
      rw [hd] at hh
      simp only [getL] at hh
      conv => arg 4; whnf
      refine ⟨_, ⟨by omega, hg⟩, ?_⟩
      conv => arg 4; whnf
      refine ⟨fun q => ?_, fun q => ?_⟩
      · have q : a.i = 9 ∧ b[a.i].toNat > 1 ∨ a.i ≥ 10 := by
          by_cases h9 : a.i = 9
          · simp [h9] at q ⊢; omega
          · simp [h9] at q ⊢; omega
        rw [if_pos q] at hh
        conv => arg 4; whnf
        exact ⟨by simp only [getA, ← hh], rfl, rfl⟩
      · have q : ¬ (a.i = 9 ∧ b[a.i].toNat > 1 ∨ a.i ≥ 10) := by
          by_cases h9 : a.i = 9
          · simp [h9] at q ⊢; omega
          · simp [h9] at q ⊢; omega
        rw [if_neg q] at hh
        have hlt : a.i < 9 ∨ a.i = 9 ∧ b[a.i].toNat ≤ 1 := by omega
        have hstep := or_step hu hlt
        conv => arg 4; whnf
        refine ⟨sh7 (by omega), ?_⟩
        conv => arg 4; whnf
        refine ⟨fun q1 => ?_, fun q1 => ?_⟩
        · have q1 : b[a.i].toNat ≥ 128 := by simp at q1; omega
          rw [if_pos q1] at hh
          have hp : 128 ^ (a.i + 1) = 128 ^ a.i * 128 := Nat.pow_succ ..
          have hm : b[a.i].toNat % 128 * 128 ^ a.i ≤ 127 * 128 ^ a.i := Nat.mul_le_mul_right _ (by omega)
          conv => arg 4; whnf
          refine ⟨⟨a.i + 1, a.u + b[a.i].toNat % 128 * 128 ^ a.i, hi, by omega, hh⟩, by show b.length - (a.i + 1) < b.length - a.i; omega, WkG.of rfl rfl ⟨Le.of_eq (succ_int (by omega)), Le.refl _ _, Le.refl _ _, Le.of_eq ?_, trivial⟩ trivial ⟨rfl, rfl, cut_ok rfl, rfl, trivial⟩ trivial⟩
          conv => lhs; whnf
          rw [hstep]
        · have q1 : ¬ b[a.i].toNat ≥ 128 := by simp at q1; omega
          rw [if_neg q1] at hh
          conv => arg 4; whnf
          refine ⟨fun q2 => ?_, fun q2 => ?_⟩
          · have q2 : b[a.i].toNat = 0 ∧ a.i > 0 := by
              by_cases h9 : b[a.i].toNat = 0
              · simp [h9] at q2 ⊢; omega
              · exfalso
                simp at q2
                omega
            rw [if_pos q2] at hh
            conv => arg 4; whnf
            exact ⟨by simp only [getA, ← hh], rfl, rfl⟩
          · have q2 : ¬ (b[a.i].toNat = 0 ∧ a.i > 0) := by
              rintro ⟨h8, h9⟩
              simp [h8] at q2
              omega
            rw [if_neg q2] at hh
            conv => arg 4; whnf
            rw [hstep]
            have hu' : a.u + b[a.i].toNat % 128 * 128 ^ a.i < 18446744073709551616 := by
              have := hstep
              rw [IntKind.wrap_u64] at this
              omega
            refine holds_out [] (numZag hu') rfl trivial rfl ?_
            conv => arg 4; whnf
            refine ⟨?_, rfl, rfl⟩
            have e : IntKind.i64.wrap ((a.i : Int) + 1) = ((a.i + 1 : Nat) : Int) := by rw [IntKind.wrap_i64]; omega
            simp only [getA, ← hh, e]
    · have hi : a.i = b.length := by have := a.hi; simp at h; omega
      rw [hi, List.drop_length] at hh
      simp only [getL] at hh
      conv => arg 4; whnf
      exact ⟨by simp only [getA, ← hh], rfl, rfl⟩
end Go.Proofs.Ytlcanameloklbaa

namespace Go.Proofs.Ytlcanameloklbaa
set_option maxRecDepth 100000
set_option maxHeartbeats 80000000
open Go.Sym

def getB (b : List UInt8) : AV :=
  match getL 0 0 b with
  | some (u, k) => .tup [.int .i64 (zag u), .int .i64 k]
  | none => .tup [.int .i64 0, .int .i64 0]

set_option maxRecDepth 100000 in
theorem refGet {b : List UInt8} (hb : b.length ≤ 100000000000000) : CallOK Try.prog 21 [.sl .none 0 (u8s b)] [] 0 (Out (getB b) [] 0) := by
  refine callOK Try.call21 Try.func21 Try.ntmps21 rfl ?_
  conv => arg 4; whnf
  refine tri_loopG (ι := GetI b) (fun a => ⟨[(5, .int .i64 a.i), (0, .sl .none 0 (u8s b)), (4, .int .u64 a.u)], [], 0, 47⟩) (fun a => b.length - a.i) ⟨0, 0, Nat.zero_le _, by simp, rfl⟩ ?_ ?_
  · exact WkG.of rfl rfl ⟨Le.refl _ _, Le.refl _ _, Le.refl _ _, trivial⟩ trivial ⟨rfl, cut_ok rfl, rfl, trivial⟩ trivial
  · intro a
    have hh := a.h
    have hu := a.hu
    conv => arg 4; whnf
    refine ⟨fun h => ?_, fun h => ?_⟩
    · have hi : a.i < b.length := by simp [u8s_length] at h; omega
      have hi10 : a.i < 10 := by simp [u8s_length] at h; omega
      have hg : (u8s b)[((a.i : Nat) : Int).toNat]? = some (u8 b[a.i]) := by simp [u8s, hi]
      have hd : b.drop a.i = b[a.i] :: b.drop (a.i + 1) := List.drop_eq_getElem_cons hi
      rw [hd] at hh
      simp only [getL] at hh
      conv => arg 4; whnf
      refine ⟨_, ⟨by omega, hg⟩, ?_⟩
      conv => arg 4; whnf
      refine ⟨fun q => ?_, fun q => ?_⟩
      · have q : a.i = 9 ∧ b[a.i].toNat > 1 ∨ a.i ≥ 10 := by
          by_cases h9 : a.i = 9
          · simp [h9] at q ⊢; omega
          · exfalso
            simp at q
            omega
        rw [if_pos q] at hh
        conv => arg 4; whnf
        exact ⟨by simp only [getB, ← hh], rfl, rfl⟩
      · have q : ¬ (a.i = 9 ∧ b[a.i].toNat > 1 ∨ a.i ≥ 10) := by
          by_cases h9 : a.i = 9
          · simp [h9] at q ⊢; omega
          · omega
        rw [if_neg q] at hh
        have hlt : a.i < 9 ∨ a.i = 9 ∧ b[a.i].toNat ≤ 1 := by omega
        have hstep := or_step hu hlt
        conv => arg 4; whnf
        refine ⟨sh7 (by omega), ?_⟩
        conv => arg 4; whnf
        refine ⟨fun q1 => ?_, fun q1 => ?_⟩
        · have q1 : ¬ b[a.i].toNat ≥ 128 := by simp at q1; omega
          rw [if_neg q1] at hh
          conv => arg 4; whnf
          refine ⟨fun q2 => ?_, fun q2 => ?_⟩
          · have q2 : b[a.i].toNat = 0 ∧ a.i > 0 := by
              by_cases h9 : b[a.i].toNat = 0
              · simp [h9] at q2 ⊢; omega
              · exfalso
                simp at q2
                omega
            rw [if_pos q2] at hh
            conv => arg 4; whnf
            exact ⟨by simp only [getB, ← hh], rfl, rfl⟩
          · have q2 : ¬ (b[a.i].toNat = 0 ∧ a.i > 0) := by
              rintro ⟨h8, h9⟩
              simp [h8] at q2
              omega
            rw [if_neg q2] at hh
            conv => arg 4; whnf
            rw [hstep]
            have hu' : a.u + b[a.i].toNat % 128 * 128 ^ a.i < 18446744073709551616 := by
              have := hstep
              rw [IntKind.wrap_u64] at this
              omega
            refine holds_out [] (refZag hu') rfl trivial rfl ?_
            conv => arg 4; whnf
            refine ⟨?_, rfl, rfl⟩
            have e : IntKind.i64.wrap ((a.i : Int) + 1) = ((a.i + 1 : Nat) : Int) := by rw [IntKind.wrap_i64]; omega
            simp only [getB, ← hh, e]
        · have q1 : b[a.i].toNat ≥ 128 := by simp at q1; omega
          rw [if_pos q1] at hh
          have hp : 128 ^ (a.i + 1) = 128 ^ a.i * 128 := Nat.pow_succ ..
          have hm : b[a.i].toNat % 128 * 128 ^ a.i ≤ 127 * 128 ^ a.i := Nat.mul_le_mul_right _ (by omega)
          conv => arg 4; whnf
          refine ⟨⟨a.i + 1, a.u + b[a.i].toNat % 128 * 128 ^ a.i, hi, by omega, hh⟩, by show b.length - (a.i + 1) < b.length - a.i; omega, WkG.of rfl rfl ⟨Le.of_eq (succ_int (by omega)), Le.refl _ _, Le.of_eq ?_, trivial⟩ trivial ⟨rfl, cut_ok rfl, rfl, trivial⟩ trivial⟩
          conv => lhs; whnf
          rw [hstep]
    · have hn : getL 0 0 b = none := by
        rw [← hh]
        by_cases hi : a.i < b.length
        · have hd : b.drop a.i = b[a.i] :: b.drop (a.i + 1) := List.drop_eq_getElem_cons hi
          rw [hd]
          have : a.i ≥ 10 := by simp [u8s_length, hi] at h; omega
          simp only [getL]
          rw [if_pos (.inr this)]
        · rw [List.drop_eq_nil_of_le (by omega)]
          rfl
      conv => arg 4; whnf
      exact ⟨by simp only [getB, hn], rfl, rfl⟩
end Go.Proofs.Ytlcanameloklbaa

namespace Go.Proofs.Ytlcanameloklbaa
set_option maxRecDepth 100000
set_option maxHeartbeats 80000000
open Go.Sym

theorem getL_le : ∀ {l : List UInt8} {i u v k : Nat}, getL i u l = some (v, k) → k ≤ i + l.length ∧ i < k
  | [], i, u, v, k, h => by simp [getL] at h
  | c :: r, i, u, v, k, h => by
    simp only [getL] at h
    split at h
    · cases h
    · split at h
      · have := getL_le h; simp only [List.length_cons]; omega
      · split at h
        · cases h
        · simp only [Option.some.injEq, Prod.mk.injEq] at h
          simp only [List.length_cons]; omega

/-- What a reader's number is, and what is behind it. -/
def numR (b : List UInt8) (e : Int) : Int × List UInt8 × Int :=
  if e ≠ 0 then (0, b, e) else match getL 0 0 b with
  | some (u, k) => (zag u, b.drop k, 0)
  | none => (0, b, 2)

theorem rNum {b : List UInt8} {e : Int} (hb : b.length ≤ 100000000000000) : CallOK Try.prog 22 [.ptr 0 0] (RH b e) 1 (Out (.int .i64 (numR b e).1) (RH (numR b e).2.1 (numR b e).2.2) 1) := by
  have c := numGet hb
  unfold getA at c
  refine callOK Try.call22 Try.func22 Try.ntmps22 rfl ?_
  conv => arg 4; whnf
  refine holds_out [0] (rErr (b := b) (e := e)) rfl ⟨⟨by decide, by rw [ren_RH]; rfl⟩, trivial⟩ rfl ?_
  conv => arg 4; whnf
  simp only [renL_u8s]
  refine ⟨fun h => ?_, fun h => ?_⟩
  · have h : e ≠ 0 := by simpa using h
    conv => arg 4; whnf
    exact ⟨by simp only [numR, if_pos h], by simp only [numR, if_pos h], rfl⟩
  · have h : e = 0 := by simpa using h
    subst h
    conv => arg 4; whnf
    cases hget : getL 0 0 b with
    | none =>
      rw [hget] at c
      refine holds_out [] c rfl trivial (by (try simp only [renO, renL, renL_u8s, ren, u8s_length]) <;> rfl) ?_
      conv => arg 4; whnf
      refine ⟨fun _ => ?_, fun h => (by simp at h)⟩
      conv => arg 4; whnf
      refine holds_out [0] (rFails (b := b) (e := 0) (f := 2)) rfl ⟨⟨by decide, by rw [ren_RH]; rfl⟩, trivial⟩ rfl ?_
      conv => arg 4; whnf
      simp only [renL_u8s]
      exact ⟨by simp [numR, hget], by simp [numR, hget], rfl⟩
    | some uk =>
      obtain ⟨u, k⟩ := uk
      rw [hget] at c
      have hk := getL_le hget
      refine holds_out [] c rfl trivial (by (try simp only [renO, renL, renL_u8s, ren, u8s_length]) <;> rfl) ?_
      conv => arg 4; whnf
      refine ⟨fun h => (by simp at h), fun _ => ?_⟩
      conv => arg 4; whnf
      refine ⟨by simp [u8s_length]; omega, ?_⟩
      simp only [Int.toNat_natCast, u8s_drop]
      conv => arg 4; whnf
      exact ⟨by simp [numR, hget], by simp [numR, hget], rfl⟩
end Go.Proofs.Ytlcanameloklbaa

namespace Go.Proofs.Ytlcanameloklbaa
set_option maxRecDepth 100000
set_option maxHeartbeats 80000000
open Go.Sym

/-- What a reader's bytes are, and what is behind them. -/
def bytesR (b : List UInt8) (e most : Int) : List UInt8 × List UInt8 × Int :=
  if e ≠ 0 then ([], b, e) else match getL 0 0 b with
  | some (u, k) => if zag u < 0 ∨ zag u > b.length - k then ([], b, 2) else if zag u > most then ([], b, 3) else ((b.drop k).take (zag u).toNat, (b.drop k).drop (zag u).toNat, 0)
  | none => ([], b, 2)

set_option maxRecDepth 100000 in
theorem rBytes {b : List UInt8} {e most : Int} (hb : b.length ≤ 100000000000000) : CallOK Try.prog 24 [.ptr 0 0, .int .i64 most] (RH b e) 1 (Out (.sl .none 0 (u8s (bytesR b e most).1)) (RH (bytesR b e most).2.1 (bytesR b e most).2.2) 1) := by
  have c := numGet hb
  unfold getA at c
  refine CallOK.ghost (K := fun a h m => (a = .nils ∨ a = .sl .none 0 (u8s (bytesR b e most).1)) ∧ (a = .nils → (bytesR b e most).1 = []) ∧ h = RH (bytesR b e most).2.1 (bytesR b e most).2.2 ∧ m = 1) ?_ ?_
  · refine callOK Try.call24 Try.func24 Try.ntmps24 rfl ?_
    conv => arg 4; whnf
    refine holds_out [0] (rErr (b := b) (e := e)) rfl ⟨⟨by decide, by rw [ren_RH]; rfl⟩, trivial⟩ rfl ?_
    conv => arg 4; whnf
    simp only [renL_u8s]
    refine ⟨fun h => ?_, fun h => ?_⟩
    · have h : e ≠ 0 := by simpa using h
      conv => arg 4; whnf
      exact ⟨.inl rfl, fun _ => by simp only [bytesR, if_pos h], by simp only [bytesR, if_pos h], rfl⟩
    · have h : e = 0 := by simpa using h
      subst h
      conv => arg 4; whnf
      cases hget : getL 0 0 b with
      | none =>
        rw [hget] at c
        refine holds_out [] c rfl trivial (by (try simp only [renO, renL, renL_u8s, ren, u8s_length]) <;> rfl) ?_
        conv => arg 4; whnf
        refine ⟨fun _ => ?_, fun h => (by simp at h)⟩
        conv => arg 4; whnf
        refine holds_out [0] (rFails (b := b) (e := 0) (f := 2)) rfl ⟨⟨by decide, by rw [ren_RH]; rfl⟩, trivial⟩ rfl ?_
        conv => arg 4; whnf
        simp only [renL_u8s]
        exact ⟨.inl rfl, fun _ => by simp [bytesR, hget], by simp [bytesR, hget], rfl⟩
      | some uk =>
        obtain ⟨u, k⟩ := uk
        rw [hget] at c
        have hk := getL_le hget
        refine holds_out [] c rfl trivial (by (try simp only [renO, renL, renL_u8s, ren, u8s_length]) <;> rfl) ?_
        conv => arg 4; whnf
        have hw : IntKind.i64.wrap (((u8s b).length : Int) - (k : Int)) = (b.length : Int) - k := by rw [IntKind.wrap_i64, u8s_length]; omega
        rw [hw]
        refine ⟨fun q => ?_, fun q => ?_⟩
        · have q : zag u < 0 ∨ zag u > b.length - k := by
            by_cases q1 : zag u < 0
            · exact .inl q1
            · simp [q1] at q; omega
          conv => arg 4; whnf
          refine holds_out [0] (rFails (b := b) (e := 0) (f := 2)) rfl ⟨⟨by decide, by rw [ren_RH]; rfl⟩, trivial⟩ rfl ?_
          conv => arg 4; whnf
          simp only [renL_u8s]
          exact ⟨.inl rfl, fun _ => by simp only [bytesR, hget, if_pos q]; rfl, by simp only [bytesR, hget, if_pos q]; rfl, rfl⟩
        · have q : ¬ (zag u < 0 ∨ zag u > b.length - k) := by
            by_cases q1 : zag u < 0
            · simp [q1] at q
            · simp [q1] at q; omega
          conv => arg 4; whnf
          refine ⟨fun q2 => ?_, fun q2 => ?_⟩
          · have q2 : zag u > most := by simpa using q2
            conv => arg 4; whnf
            refine holds_out [0] (rFails (b := b) (e := 0) (f := 3)) rfl ⟨⟨by decide, by rw [ren_RH]; rfl⟩, trivial⟩ rfl ?_
            conv => arg 4; whnf
            simp only [renL_u8s]
            exact ⟨.inl rfl, fun _ => by simp only [bytesR, hget, if_neg q, if_pos q2]; rfl, by simp only [bytesR, hget, if_neg q, if_pos q2]; rfl, rfl⟩
          · have q2 : ¬ zag u > most := by simpa using q2
            obtain ⟨n, hn⟩ : ∃ n : Nat, zag u = n := ⟨(zag u).toNat, by omega⟩
            conv => arg 4; whnf
            refine ⟨by simp [u8s_length]; omega, ?_⟩
            simp only [Int.toNat_natCast, u8s_drop, hn]
            conv => arg 4; whnf
            have ct := rTakes (b := b.drop k) (e := 0) (n := n) (by simp; omega) (by omega)
            rw [if_neg (by simp), if_neg (by simp; omega)] at ct
            refine holds_out [0] ct rfl ⟨⟨by decide, by rw [ren_RH]; rfl⟩, trivial⟩ rfl ?_
            conv => arg 4; whnf
            simp only [renL_u8s]
            have hbr : bytesR b 0 most = ((b.drop k).take n, (b.drop k).drop n, 0) := by
              simp only [bytesR, hget]
              rw [if_neg (by simp), if_neg q, if_neg q2, hn, Int.toNat_natCast]
            exact ⟨.inr (by rw [hbr]), fun h => (by cases h), by rw [hbr], rfl⟩
  · rintro a h m ⟨ha, hn, rfl, rfl⟩
    rcases ha with rfl | rfl
    · exact ⟨_, _, _, by omega, Gh.le (fun _ => Le.nils) (fun id o hg => ⟨o, hg, LeO.refl _ _⟩), by rw [hn rfl]; rfl, rfl, rfl⟩
    · exact ⟨_, _, _, by omega, .refl _ _ _ _, rfl, rfl, rfl⟩

theorem u8s_inj {a b : List UInt8} (h : u8s a = u8s b) : a = b := by
  induction a generalizing b with
  | nil => cases b with
    | nil => rfl
    | cons y b => simp [u8s] at h
  | cons x a ih => cases b with
    | nil => simp [u8s] at h
    | cons y b =>
      simp only [u8s, List.map_cons, List.cons.injEq, u8, AV.int.injEq, true_and] at h
      obtain ⟨h1, h2⟩ := h
      have : x = y := UInt8.toNat_inj.1 (by omega)
      rw [this, ih h2]

theorem rText {b : List UInt8} {e most : Int} (hb : b.length ≤ 100000000000000) : CallOK Try.prog 25 [.ptr 0 0, .int .i64 most] (RH b e) 1 (Out (.str (bytesR b e most).1) (RH (bytesR b e most).2.1 (bytesR b e most).2.2) 1) := by
  refine callOK Try.call25 Try.func25 Try.ntmps25 rfl ?_
  conv => arg 4; whnf
  refine holds_out [0] (rBytes (b := b) (e := e) (most := most) hb) rfl ⟨⟨by decide, by rw [ren_RH]; rfl⟩, trivial⟩ rfl ?_
  conv => arg 4; whnf
  simp only [renL_u8s]
  refine ⟨_, rfl, ?_⟩
  conv => arg 4; whnf
  exact ⟨rfl, rfl, rfl⟩
end Go.Proofs.Ytlcanameloklbaa

namespace Go.Proofs.Ytlcanameloklbaa
set_option maxRecDepth 100000
set_option maxHeartbeats 80000000
open Go.Sym

/-- The number of bytes, the greatest first. -/
def unfixed (n : Nat) : List UInt8 → Nat
  | [] => n
  | c :: r => unfixed (n * 256 + c.toNat) r

/-- What a reader's fixed number is, and what is behind it. -/
def fixedR (b : List UInt8) (e size : Int) : Int × List UInt8 × Int :=
  if e ≠ 0 then (0, b, e) else if size < 1 ∨ size > 8 ∨ (b.length : Int) < size ∨ size = 8 ∧ (b.headD 0).toNat > 127 then (0, b, 2)
  else (unfixed 0 (b.take size.toNat), b.drop size.toNat, 0)

theorem or_byte {u : Nat} {c : UInt8} (hu : u < 36028797018963968) : (BitVec.ofNat 64 (u * 256) ||| BitVec.ofNat 64 c.toNat).toNat = u * 256 + c.toNat := by
  have hc : c.toNat < 256 := c.toNat_lt
  rw [BitVec.toNat_or]
  simp only [BitVec.toNat_ofNat]
  rw [Nat.mod_eq_of_lt (show u * 256 < 2 ^ 64 by omega), Nat.mod_eq_of_lt (show c.toNat < 2 ^ 64 by omega)]
  have hc' : c.toNat < 2 ^ 8 := hc
  rw [show u * 256 = u * 2 ^ 8 from rfl, ← Nat.shiftLeft_eq, ← Nat.shiftLeft_add_eq_or_of_lt hc']

theorem or_byte_i {u : Nat} {c : UInt8} (hu : u < 36028797018963968) :
    IntKind.i64.wrap (BitVec.ofInt IntKind.i64.bits (IntKind.i64.wrap ((u : Int) * 2 ^ (min (8 : Int).toNat IntKind.i64.bits))) ||| BitVec.ofInt IntKind.i64.bits (IntKind.i64.wrap (c.toNat : Int))).toNat = ((u * 256 + c.toNat : Nat) : Int) := by
  have hc : c.toNat < 256 := c.toNat_lt
  have e1 : (2 : Int) ^ (min (8 : Int).toNat IntKind.i64.bits) = 256 := by decide
  have e3 : IntKind.i64.bits = 64 := rfl
  have e4 : IntKind.i64.wrap ((u : Int) * 256) = ((u * 256 : Nat) : Int) := by rw [IntKind.wrap_i64]; omega
  have e5 : IntKind.i64.wrap (c.toNat : Int) = (c.toNat : Int) := by rw [IntKind.wrap_i64]; omega
  rw [e1, e3, e4, e5, ofInt_nat, ofInt_nat, or_byte hu, IntKind.wrap_i64]
  omega

structure FixR (l : List UInt8) where
  i : Nat
  u : Nat
  hi : i ≤ l.length
  h : unfixed u (l.drop i) = unfixed 0 l
  h0 : i = 0 → u = 0
  hu : 0 < i → (u + 1) * 256 ^ (l.length - i) ≤ 9223372036854775808

def FixR.next {l : List UInt8} (a : FixR l) (h : a.i < l.length) (hl : l.length ≤ 8) (h8 : l.length = 8 → (l.headD 0).toNat ≤ 127) : FixR l where
  i := a.i + 1
  u := a.u * 256 + l[a.i].toNat
  hi := h
  h := by
    have := a.h
    rw [List.drop_eq_getElem_cons h] at this
    exact this
  h0 := fun h => by omega
  hu := fun _ => by
    have hc : l[a.i].toNat < 256 := l[a.i].toNat_lt
    rcases Nat.eq_zero_or_pos a.i with h0 | h0
    · have hz := a.h0 h0
      simp only [hz, h0]
      simp only [Nat.zero_mul, Nat.zero_add]
      by_cases h7 : l.length = 8
      · have := h8 h7
        have e : l[a.i] = l.headD 0 := by
          cases l with
          | nil => simp at h7
          | cons x r => simp [h0]
        rw [h7, show l[0] = l.headD 0 from by cases l with
          | nil => simp at h7
          | cons x r => rfl]
        have : (256 : Nat) ^ (8 - 1) = 72057594037927936 := by decide
        rw [this]; omega
      · have h1 : 256 ^ (l.length - 1) ≤ 256 ^ 6 := Nat.pow_le_pow_right (by omega) (by omega)
        have h2 : (256 : Nat) ^ 6 = 281474976710656 := by decide
        have h3 : (l[0].toNat + 1) * 256 ^ (l.length - 1) ≤ 256 * 256 ^ (l.length - 1) := Nat.mul_le_mul_right _ (by have := l[0].toNat_lt; omega)
        omega
    · have hu := a.hu h0
      have e : 256 ^ (l.length - a.i) = 256 * 256 ^ (l.length - (a.i + 1)) := by
        rw [show l.length - a.i = (l.length - (a.i + 1)) + 1 by omega, Nat.pow_succ, Nat.mul_comm]
      rw [e, ← Nat.mul_assoc] at hu
      have h3 : (a.u * 256 + l[a.i].toNat + 1) * 256 ^ (l.length - (a.i + 1)) ≤ ((a.u + 1) * 256) * 256 ^ (l.length - (a.i + 1)) := Nat.mul_le_mul_right _ (by omega)
      omega

theorem FixR.lt {l : List UInt8} (a : FixR l) (h : a.i < l.length) : a.u < 36028797018963968 := by
  rcases Nat.eq_zero_or_pos a.i with h0 | h0
  · rw [a.h0 h0]; omega
  · have hu := a.hu h0
    have e : 256 ^ (l.length - a.i) = 256 * 256 ^ (l.length - (a.i + 1)) := by
      rw [show l.length - a.i = (l.length - (a.i + 1)) + 1 by omega, Nat.pow_succ, Nat.mul_comm]
    have hp := Nat.pow_pos (n := l.length - (a.i + 1)) (show 0 < 256 by omega)
    have h1 : (a.u + 1) * 256 ≤ (a.u + 1) * 256 ^ (l.length - a.i) := Nat.mul_le_mul_left _ (by omega)
    omega

set_option maxRecDepth 100000 in
theorem rFixed {b : List UInt8} {e size : Int} (hs : I64 size) (hb : b.length ≤ 100000000000000) : CallOK Try.prog 20 [.ptr 0 0, .int .i64 size] (RH b e) 1 (Out (.int .i64 (fixedR b e size).1) (RH (fixedR b e size).2.1 (fixedR b e size).2.2) 1) := by
  refine callOK Try.call20 Try.func20 Try.ntmps20 rfl ?_
  conv => arg 4; whnf
  refine holds_out [0] (rErr (b := b) (e := e)) rfl ⟨⟨by decide, by rw [ren_RH]; rfl⟩, trivial⟩ rfl ?_
  conv => arg 4; whnf
  simp only [renL_u8s]
  refine ⟨fun h => ?_, fun h => ?_⟩
  · have h : e ≠ 0 := by simpa using h
    conv => arg 4; whnf
    exact ⟨by simp only [fixedR, if_pos h], by simp only [fixedR, if_pos h], rfl⟩
  · have h : e = 0 := by simpa using h
    subst h
    conv => arg 4; whnf
    refine ⟨u8 (b.headD 0), ?_, ?_⟩
    · conv => whnf
      intro h1
      conv => whnf
      intro h2
      simp [u8s_length] at h1 h2
      show (0 : Int) ≤ 0 ∧ (u8s b)[0]? = some (u8 (b.headD 0))
      cases b with
      | nil => simp at h2; omega
      | cons c r => exact ⟨by omega, rfl⟩
    conv => arg 4; whnf
    refine ⟨fun q => ?_, fun q => ?_⟩
    · have q : size < 1 ∨ size > 8 ∨ (b.length : Int) < size ∨ size = 8 ∧ (b.headD 0).toNat > 127 := by
        generalize (b.headD 0).toNat = z at q ⊢
        by_cases q1 : size < 1
        · exact .inl q1
        by_cases q2 : size > 8
        · exact .inr (.inl q2)
        by_cases q3 : (b.length : Int) < size
        · exact .inr (.inr (.inl q3))
        simp [u8s_length, q1, q2, q3] at q
        omega
      have hr : fixedR b 0 size = (0, b, 2) := by simp only [fixedR]; rw [if_neg (by simp), if_pos q]
      conv => arg 4; whnf
      refine holds_out [0] (rFails (b := b) (e := 0) (f := 2)) rfl ⟨⟨by decide, by rw [ren_RH]; rfl⟩, trivial⟩ rfl ?_
      conv => arg 4; whnf
      simp only [renL_u8s]
      exact ⟨by rw [hr], by rw [hr]; rfl, rfl⟩
    · have q : ¬ (size < 1 ∨ size > 8 ∨ (b.length : Int) < size ∨ size = 8 ∧ (b.headD 0).toNat > 127) := by
        generalize (b.headD 0).toNat = z at q ⊢
        by_cases q1 : size < 1
        · simp [q1] at q
        by_cases q2 : size > 8
        · simp [q1, q2] at q
        by_cases q3 : (b.length : Int) < size
        · simp [u8s_length, q1, q2, q3] at q
        simp [u8s_length, q1, q2, q3] at q
        omega
      obtain ⟨n, rfl⟩ : ∃ n : Nat, size = n := ⟨size.toNat, by omega⟩
      have hr : fixedR b 0 n = (((unfixed 0 (b.take n) : Nat) : Int), b.drop n, 0) := by simp only [fixedR]; rw [if_neg (by simp), if_neg q, Int.toNat_natCast]
      have ct := rTakes (b := b) (e := 0) (n := n) hb (by omega)
      rw [if_neg (by simp), if_neg (by omega)] at ct
      conv => arg 4; whnf
      refine holds_out [0] ct rfl ⟨⟨by decide, by rw [ren_RH]; rfl⟩, trivial⟩ rfl ?_
      conv => arg 4; whnf
      simp only [renL_u8s]
      have hlen : (b.take n).length = n := by simp; omega
      have h8 : (b.take n).length = 8 → ((b.take n).headD 0).toNat ≤ 127 := by
        rw [hlen]
        intro h8
        have : (b.take n).headD 0 = b.headD 0 := by
          cases b with
          | nil => simp
          | cons c r => subst h8; rfl
        rw [this]; omega
      refine tri_loopG (ι := FixR (b.take n)) (fun a => ⟨[(44, .int .i64 a.i), (43, .int .i64 n), (42, .sl .none 0 (u8s (b.take n))), (4, .int .i64 a.u)], RH (b.drop n) 0, 1, 55⟩) (fun a => n - a.i) ⟨0, 0, Nat.zero_le _, rfl, fun _ => rfl, fun h => by omega⟩ ?_ ?_
      · refine WkG.of rfl rfl ⟨Le.refl _ _, Le.of_eq ?_, Le.refl _ _, Le.refl _ _, trivial⟩ ⟨⟨_, rfl, LeO.refl _ _⟩, trivial⟩ ⟨rfl, rfl, cut_ok rfl, rfl, trivial⟩ ⟨⟨by decide, by (try simp only [renO, renL, renL_u8s, ren, u8s_length]) <;> rfl⟩, trivial⟩
        conv => lhs; whnf
        rw [u8s_length, hlen]
      · intro a
        have hai := a.hi
        conv => arg 4; whnf
        refine ⟨fun h => ?_, fun h => ?_⟩
        · have hi : a.i < (b.take n).length := by rw [hlen]; simpa using h
          have hg : (u8s (b.take n))[((a.i : Nat) : Int).toNat]? = some (u8 (b.take n)[a.i]) := by
            simp only [u8s, Int.toNat_natCast, List.getElem?_map, List.getElem?_eq_getElem hi, Option.map_some]
          have hlt := a.lt hi
          conv => arg 4; whnf
          refine ⟨_, ⟨by omega, hg⟩, ?_⟩
          conv => arg 4; whnf
          refine ⟨by decide, ?_⟩; conv => arg 4; whnf
          refine ⟨a.next hi (by omega) h8, by show n - (a.i + 1) < n - a.i; omega, WkG.of rfl rfl ⟨Le.of_eq (succ_int (by omega)), Le.refl _ _, Le.refl _ _, Le.of_eq ?_, trivial⟩ ⟨⟨_, rfl, LeO.refl _ _⟩, trivial⟩ ⟨rfl, rfl, cut_ok rfl, rfl, trivial⟩ ⟨⟨by decide, by (try simp only [renO, renL, renL_u8s, ren, u8s_length]) <;> rfl⟩, trivial⟩⟩
          conv => lhs; whnf
          rw [or_byte_i hlt]
          rfl
        · have hi : a.i = (b.take n).length := by simp at h; omega
          have hh := a.h
          rw [hi, List.drop_length] at hh
          simp only [unfixed] at hh
          conv => arg 4; whnf
          exact ⟨by rw [hr, ← hh], by rw [hr], rfl⟩
end Go.Proofs.Ytlcanameloklbaa

namespace Go.Proofs.Ytlcanameloklbaa
set_option maxRecDepth 100000
set_option maxHeartbeats 80000000
open Go.Sym

theorem ren_RH' (ρ : Nat → Nat) (b : List UInt8) (e : Int) : renO ρ (.cells [.sl .none 0 (u8s b), .int .i64 e]) = .cells [.sl .none 0 (u8s b), .int .i64 e] := by
  simp only [renO, renL, renL_u8s, ren, renP]

set_option maxRecDepth 100000 in
theorem awake : CallOK Try.prog 12 [] [] 0 (Out (.bool true) [] 0) := by
  refine CallOK.ghost (K := fun a h m => a = .bool true) ?_ ?_
  · refine callOK Try.call12 Try.func12 Try.ntmps12 rfl ?_
    conv => arg 4; whnf
    refine holds_pre (args' := [.ptr 0 0, .int .i64 258, .int .i64 2]) (h' := WH [] 0 false) (nx' := 2) ((Gh.token _ _ _ _).trans (Gh.le (fun _ => Le.refl _ _) (HeapLe.le ⟨⟨_, rfl, LeL.cons (Le.nilsTok rfl) (.cons Le.bl (LeL.nil _))⟩, ⟨_, rfl, rfl⟩, trivial⟩))) rfl ?_
    refine holds_call [0, 1] (wFixed (n := 258) (size := 2) (by unfold I64; omega) (by unfold I64; omega) (l := []) (s := 0) (bad := false) (by simp)) rfl ⟨⟨by decide, by (try simp only [renO, renL, renL_u8s, ren, u8s_length]) <;> rfl⟩, ⟨by decide, rfl⟩, trivial⟩ (by (try simp only [renO, renL, renL_u8s, ren, u8s_length]) <;> rfl) ?_
    rintro a0 h0 m0 (⟨hf, s', rfl, rfl, rfl⟩ | ⟨hf, rfl, rfl, rfl⟩)
    · conv => arg 4; whnf
      simp only [renL_u8s]
      rw [show [] ++ fixed (Int.toNat 258) (Int.toNat 2) = [1, 2] from by decide]
      refine holds_out [0, 1] (wDone (l := [1, 2]) (s := s') (bad := false) (by simp)) rfl ⟨⟨by decide, by (try simp only [renO, renL, renL_u8s, ren, u8s_length]) <;> rfl⟩, ⟨by decide, rfl⟩, trivial⟩ (by (try simp only [renO, renL, renL_u8s, ren, u8s_length]) <;> rfl) ?_
      conv => arg 4; whnf
      refine Or.inl ?_
      conv => arg 4; whnf
      refine holds_args (args' := [.sl .none 0 (u8s [1, 2, 3])]) ⟨Le.none, trivial⟩ ?_
      refine holds_out [] (newReader (b := [1, 2, 3]) (by simp)) rfl trivial (by (try simp only [renO, renL, renL_u8s, ren, u8s_length]) <;> rfl) ?_
      simp only [renL_u8s]
      conv => arg 4; whnf
      refine ⟨u8 1, ctxP_of ⟨by decide, rfl⟩, ?_⟩
      conv => arg 4; whnf
      refine ⟨u8 2, ctxP_of ⟨by decide, rfl⟩, ?_⟩
      conv => arg 4; whnf
      refine ⟨fun h => absurd h (by decide), fun _ => ?_⟩
      conv => arg 4; whnf
      simp only [renL_u8s]
      refine holds_out [2] (rFixed (b := [1, 2, 3]) (e := 0) (size := 2) (by unfold I64; omega) (by simp)) rfl ⟨⟨by decide, by rw [ren_RH']; rfl⟩, trivial⟩ rfl ?_
      rw [show fixedR [1, 2, 3] 0 2 = (258, [3], 0) from by decide]
      simp only [renL_u8s]
      conv => arg 4; whnf
      simp only [renL_u8s]
      refine ⟨fun _ => ?_, fun h => absurd h (by decide)⟩
      conv => arg 4; whnf
      refine holds_out [2] (rLeft (b := [3]) (e := 0)) rfl ⟨⟨by decide, by rw [ren_RH']; rfl⟩, trivial⟩ rfl ?_
      conv => arg 4; whnf
      simp only [renL_u8s]
      refine ⟨fun _ => ?_, fun h => absurd h (by decide)⟩
      conv => arg 4; whnf
      refine holds_out [2] (rNum (b := [3]) (e := 0) (by simp)) rfl ⟨⟨by decide, by rw [ren_RH']; rfl⟩, trivial⟩ rfl ?_
      rw [show numR [3] 0 = (-2, [], 0) from by decide]
      conv => arg 4; whnf
      simp only [renL_u8s]
      refine ⟨fun _ => ?_, fun h => absurd h (by decide)⟩
      conv => arg 4; whnf
      refine holds_out [2] (rErr (b := []) (e := 0)) rfl ⟨⟨by decide, by rw [ren_RH']; rfl⟩, trivial⟩ rfl ?_
      conv => arg 4; whnf
      simp only [renL_u8s]
      refine ⟨fun _ => ?_, fun h => absurd h (by decide)⟩
      conv => arg 4; whnf
      refine holds_out [2] (rNum (b := []) (e := 0) (by simp)) rfl ⟨⟨by decide, by rw [ren_RH']; rfl⟩, trivial⟩ rfl ?_
      rw [show numR [] 0 = (0, [], 2) from by decide]
      conv => arg 4; whnf
      simp only [renL_u8s]
      refine ⟨fun _ => ?_, fun h => absurd h (by decide)⟩
      conv => arg 4; whnf
      refine holds_out [2] (rErr (b := []) (e := 2)) rfl ⟨⟨by decide, by rw [ren_RH']; rfl⟩, trivial⟩ rfl ?_
      conv => arg 4; whnf
      simp only [renL_u8s]
      rfl
    · exact absurd (by unfold Fits; decide) hf
  · rintro a h m rfl
    exact ⟨_, [], 0, by omega, (Gh.le (h' := []) (fun _ => Le.refl _ _) (HeapLe.le trivial)).trans (Gh.drop (Nat.le_refl _) (fun _ => rfl) (HeapCut.get trivial)), rfl, rfl, rfl⟩
end Go.Proofs.Ytlcanameloklbaa

namespace Go.Proofs.Ytlcanameloklbaa
set_option maxRecDepth 100000
set_option maxHeartbeats 80000000
open Go.Sym

theorem noneDone : CallOK Try.prog 15 [.nilp] [] 0 (Out (.tup [.nils, .bl false]) [] 0) := by
  refine callOK Try.call15 Try.func15 Try.ntmps15 rfl ?_
  conv => arg 4; whnf
  exact ⟨rfl, rfl, rfl⟩

theorem noneNum : CallOK Try.prog 16 [.nilp, .int .i64 1] [] 0 (Out .nilp [] 0) := by
  refine callOK Try.call16 Try.func16 Try.ntmps16 rfl ?_
  conv => arg 4; whnf
  exact ⟨rfl, rfl, rfl⟩

theorem ren_itemsA (ρ : Nat → Nat) (l : List Item) : renL ρ [AV.sl .none 4 (items l)] = [AV.sl .none 4 (items l)] := by
  show [AV.sl .none 4 (renL ρ (items l))] = _
  rw [ren_items]

set_option maxRecDepth 100000 in
theorem writes {l : List Item} (ho : ∀ x ∈ l, x.ok) : CallOK Try.prog 3 [.sl .none 4 (items l)] [] 0 (Out (.bool true) [] 0) := by
  refine callOK Try.call3 Try.func3 Try.ntmps3 rfl ?_
  conv => arg 4; whnf
  refine holds_call [] (small (l := l)) rfl trivial (by rw [ren_itemsA]; rfl) ?_
  rintro a0 h0 m0 ⟨b, ⟨rfl, rfl, rfl⟩, hb⟩
  conv => arg 4; whnf
  refine ⟨fun h => ?_, fun h => ?_⟩
  · conv => arg 4; whnf
    refine holds_out [] awake rfl trivial rfl ?_
    conv => arg 4; whnf
    exact ⟨rfl, rfl, rfl⟩
  · have hb := hb (by simpa using h)
    conv => arg 4; whnf
    refine holds_out [] (written ho (by omega)) rfl trivial (by rw [ren_itemsA]; rfl) ?_
    conv => arg 4; whnf
    simp only [renL_u8s]
    refine holds_out [] (made ho (by omega)) rfl trivial (by rw [ren_itemsA]; rfl) ?_
    conv => arg 4; whnf
    simp only [renL_u8s]
    refine holds_out [] noneDone rfl trivial rfl ?_
    conv => arg 4; whnf
    refine ⟨bytesOf l, ctxP_of rfl, ?_⟩
    conv => arg 4; whnf
    refine ⟨bytesOf l, ctxP_of rfl, ?_⟩
    conv => arg 4; whnf
    refine ⟨fun _ => ?_, fun h => absurd h (by simp)⟩
    conv => arg 4; whnf
    refine holds_out [] noneNum rfl trivial rfl ?_
    conv => arg 4; whnf
    refine holds_out [] awake rfl trivial rfl ?_
    conv => arg 4; whnf
    exact ⟨rfl, rfl, rfl⟩
end Go.Proofs.Ytlcanameloklbaa

namespace Go.Proofs.Ytlcanameloklbaa
set_option maxRecDepth 100000
set_option maxHeartbeats 80000000
open Go.Sym

theorem unfixed_append (a b : List UInt8) : ∀ n, unfixed n (a ++ b) = unfixed (unfixed n a) b := by
  induction a with
  | nil => intro n; rfl
  | cons x a ih => intro n; exact ih _

theorem unfixed_fixed {n : Nat} : ∀ k m, m = n / 256 ^ k → unfixed m (fixed n k) = n
  | 0, m, h => by simp [unfixed, fixed, h]
  | k + 1, m, h => by
    simp only [fixed, unfixed]
    apply unfixed_fixed k
    have e : n / 256 ^ (k + 1) = n / 256 ^ k / 256 := by rw [Nat.pow_succ, Nat.div_div_eq_div_mul]
    have hb : (bt (n / 256 ^ k)).toNat = n / 256 ^ k % 256 := by unfold bt; simp
    rw [h, e, hb]
    omega

theorem numR_put {n : Int} (hn : I64 n) (r : List UInt8) : numR (put n ++ r) 0 = (n, r, 0) := by
  have h := getL_put 0 0 (zig n) r (by omega) (by simpa using zig_lt hn) (.inl rfl)
  unfold numR put
  rw [if_neg (by simp), h]
  simp [zag_zig hn]

theorem bytesR_put {s r : List UInt8} {most : Int} (hs : (s.length : Int) ≤ most) (hl : s.length ≤ 1000000000) : bytesR (put s.length ++ s ++ r) 0 most = (s, r, 0) := by
  have hn : I64 (s.length : Int) := by unfold I64; omega
  have h := getL_put 0 0 (zig s.length) (s ++ r) (by omega) (by simpa using zig_lt hn) (.inl rfl)
  unfold bytesR put
  rw [if_neg (by simp), List.append_assoc, h]
  simp only [Nat.pow_zero, Nat.mul_one, Nat.zero_add, zag_zig hn]
  rw [if_neg (by simp; omega), if_neg (by omega)]
  simp

theorem fixed_head {n : Nat} (h : n < 9223372036854775808) (r : List UInt8) : ((fixed n 8 ++ r).headD 0).toNat ≤ 127 := by
  show (bt (n / 256 ^ 7)).toNat ≤ 127
  have : (256 : Nat) ^ 7 = 72057594037927936 := by decide
  rw [bt_toNat (by rw [this]; omega), this]
  omega

theorem fixedR_fixed {n size : Int} (hn : I64 n) (hf : Fits n size) (r : List UInt8) : fixedR (fixed n.toNat size.toNat ++ r) 0 size = (n, r, 0) := by
  obtain ⟨h1, h2, h3, h4⟩ := hf
  unfold I64 at hn
  obtain ⟨m, rfl⟩ : ∃ m : Nat, n = m := ⟨n.toNat, by omega⟩
  obtain ⟨k, rfl⟩ : ∃ k : Nat, size = k := ⟨size.toNat, by omega⟩
  simp only [Int.toNat_natCast] at h4 ⊢
  unfold fixedR
  have hl : (fixed m k).length = k := fixed_len m k
  rw [if_neg (by simp), if_neg]
  · simp only [Int.toNat_natCast]
    have e1 : (fixed m k ++ r).take k = fixed m k := List.take_left' hl
    have e2 : (fixed m k ++ r).drop k = r := List.drop_left' hl
    rw [e1, e2, unfixed_fixed k 0 ?_]
    symm
    apply Nat.div_eq_of_lt
    by_cases h8 : k = 8
    · subst h8; have : (256 : Nat) ^ 8 = 18446744073709551616 := by decide
      omega
    · have := h4 (by omega)
      have e : (256 : Int) ^ k = ((256 ^ k : Nat) : Int) := by simp
      rw [e] at this
      omega
  · rintro (h | h | h | ⟨h, h'⟩)
    · omega
    · omega
    · simp [hl] at h; omega
    · obtain rfl : k = 8 := by omega
      have := fixed_head (n := m) (by omega) r
      omega

theorem ren_itemsD (ρ : Nat → Nat) (l : List Item) : ren ρ (.sl .none 4 (items l)) = .sl .none 4 (items l) := by
  show AV.sl .none 4 (renL ρ (items l)) = _
  rw [ren_items]

structure BkI (l : List Item) where
  i : Nat
  hi : i ≤ l.length

theorem encs_drop {l : List Item} {i : Nat} {x : Item} (h : l[i]? = some x) : encs (l.drop i) = x.enc ++ encs (l.drop (i + 1)) := by
  obtain ⟨hi, hx⟩ := List.getElem?_eq_some_iff.1 h
  rw [List.drop_eq_getElem_cons hi, hx]
  simp [encs]

theorem tot_drop (l : List Item) (i : Nat) : tot (l.drop i) ≤ tot l := by
  have h := congrArg tot (List.take_append_drop i l)
  unfold tot at h ⊢
  simp only [List.map_append, List.sum_append] at h
  omega

set_option maxRecDepth 100000 in
theorem back {l : List Item} (ho : ∀ x ∈ l, x.ok) : CallOK Try.prog 6 [.sl .none 4 (items l)] [] 0 (fun a _ _ => a = .bool true ∨ a = .bl true) := by
  refine callOK Try.call6 Try.func6 Try.ntmps6 rfl ?_
  conv => arg 4; whnf
  refine holds_call [] (small (l := l)) rfl trivial (by rw [ren_itemsA]; rfl) ?_
  rintro a0 h0 m0 ⟨b, ⟨rfl, rfl, rfl⟩, hb⟩
  conv => arg 4; whnf
  refine ⟨fun h => ?_, fun h => ?_⟩
  · conv => arg 4; whnf
    refine holds_out [] awake rfl trivial rfl ?_
    conv => arg 4; whnf
    exact .inl rfl
  · have hb := hb (by simpa using h)
    conv => arg 4; whnf
    refine holds_out [] (written ho (by omega)) rfl trivial (by rw [ren_itemsA]; rfl) ?_
    conv => arg 4; whnf
    simp only [renL_u8s]
    refine ⟨fun h => ?_, fun h => ?_⟩
    · conv => arg 4; whnf
      refine holds_out [] (made ho (by omega)) rfl trivial (by rw [ren_itemsA]; rfl) ?_
      conv => arg 4; whnf
      simp only [renL_u8s]
      refine ⟨fun h => ?_, fun h' => absurd (h.symm.trans h') (by simp)⟩
      conv => arg 4; whnf
      refine holds_out [] awake rfl trivial rfl ?_
      conv => arg 4; whnf
      exact .inl rfl
    · have hok : isOk l = true := by simpa using h
      have hbad : ∀ x ∈ l, ¬ x.bad := by
        unfold isOk at hok
        intro x hx hb
        simp at hok
        exact hok x hx hb
      have hbo : bytesOf l = encs l := by unfold bytesOf; rw [if_pos hok]
      have hle : (encs l).length ≤ tot l := encs_len fun x hx => enc_len (ho x hx) (by have := tot_mem hx; omega)
      rw [hbo]
      conv => arg 4; whnf
      refine holds_out [] (newReader (b := encs l) (by omega)) rfl trivial (by (try simp only [renO, renL, renL_u8s, ren, u8s_length]) <;> rfl) ?_
      simp only [renL_u8s]
      conv => arg 4; whnf
      simp only [renL_u8s]
      refine tri_loopG (ι := BkI l) (fun a => ⟨[(8, .int .i64 a.i), (7, .ptr 0 0), (0, .sl .none 4 (items l))], RH (encs (l.drop a.i)) 0, 1, 89⟩) (fun a => l.length - a.i) ⟨0, Nat.zero_le _⟩ ?_ ?_
      · exact WkG.of rfl rfl ⟨Le.refl _ _, Le.refl _ _, Le.refl _ _, trivial⟩ ⟨⟨_, rfl, LeO.refl _ _⟩, trivial⟩ ⟨rfl, rfl, cut_items l, trivial⟩ ⟨⟨by decide, by rw [ren_RH']⟩, trivial⟩
      · intro a
        have hai := a.hi
        have htl := tot_len l
        conv => arg 4; whnf
        refine ⟨fun h => ?_, fun h => ?_⟩
        · have hi : a.i < l.length := by simp [items] at h; omega
          obtain ⟨x, hx⟩ : ∃ x, l[a.i]? = some x := ⟨_, List.getElem?_eq_getElem hi⟩
          have hxm : x ∈ l := List.mem_of_getElem? hx
          have hxo := ho x hxm
          have hxb := hbad x hxm
          have hg := items_get hx
          have htm := tot_mem hxm
          have hd := encs_drop hx
          have hdl : (encs (l.drop a.i)).length ≤ 1000 := by
            have := encs_len (l := l.drop a.i) fun y hy => enc_len (ho y (List.mem_of_mem_drop hy)) (by have := tot_mem (List.mem_of_mem_drop hy); omega)
            have := tot_drop l a.i
            omega
          conv => arg 4; whnf
          refine ⟨x.av, ⟨by omega, hg⟩, ?_⟩
          conv => arg 4; whnf
          refine ⟨fun h1 => ?_, fun h1 => ?_⟩
          · have h1 : x.kind = 1 := by simpa using h1
            have hf : Fits x.n x.size := by
              by_cases hf : Fits x.n x.size
              · exact hf
              · exact absurd ⟨h1, hf⟩ hxb
            have hen : x.enc = fixed x.n.toNat x.size.toNat := by simp [Item.enc, h1, hf]
            have c := rFixed (b := encs (l.drop a.i)) (e := 0) (size := x.size) hxo.2.2 (by omega)
            rw [hd, hen, fixedR_fixed hxo.2.1 hf, ← hen, ← hd] at c
            conv => arg 4; whnf
            refine holds_out [0] c rfl ⟨⟨by decide, by rw [ren_RH']; rfl⟩, trivial⟩ rfl ?_
            conv => arg 4; whnf
            simp only [renL_u8s]
            refine ⟨rfl, ?_⟩
            conv => arg 4; whnf
            refine ⟨fun h => absurd h (by simp), fun _ => ?_⟩
            conv => arg 4; whnf
            refine ⟨⟨a.i + 1, hi⟩, by show l.length - (a.i + 1) < l.length - a.i; omega, WkG.of rfl rfl ⟨Le.of_eq (succ_int (by omega)), Le.refl _ _, Le.refl _ _, trivial⟩ ⟨⟨_, rfl, LeO.refl _ _⟩, trivial⟩ ⟨rfl, rfl, cut_items l, trivial⟩ ⟨⟨by decide, by rw [ren_RH']⟩, trivial⟩⟩
          · have h1 : x.kind ≠ 1 := by simpa using h1
            conv => arg 4; whnf
            refine ⟨fun h2 => ?_, fun h2 => ?_⟩
            · have h2 : x.kind = 2 := by simpa using h2
              have hen : x.enc = put x.n := by simp [Item.enc, h2]
              have c := rNum (b := encs (l.drop a.i)) (e := 0) (by omega)
              rw [hd, hen, numR_put hxo.2.1, ← hen, ← hd] at c
              conv => arg 4; whnf
              refine holds_out [0] c rfl ⟨⟨by decide, by rw [ren_RH']; rfl⟩, trivial⟩ rfl ?_
              conv => arg 4; whnf
              simp only [renL_u8s]
              refine ⟨rfl, ?_⟩
              conv => arg 4; whnf
              refine ⟨fun h => absurd h (by simp), fun _ => ?_⟩
              conv => arg 4; whnf
              refine ⟨⟨a.i + 1, hi⟩, by show l.length - (a.i + 1) < l.length - a.i; omega, WkG.of rfl rfl ⟨Le.of_eq (succ_int (by omega)), Le.refl _ _, Le.refl _ _, trivial⟩ ⟨⟨_, rfl, LeO.refl _ _⟩, trivial⟩ ⟨rfl, rfl, cut_items l, trivial⟩ ⟨⟨by decide, by rw [ren_RH']⟩, trivial⟩⟩
            · have h2 : x.kind ≠ 2 := by simpa using h2
              conv => arg 4; whnf
              refine ⟨fun h3 => ?_, fun h3 => ?_⟩
              · have h3 : x.kind = 3 := by simpa using h3
                have hen : x.enc = put x.s.length ++ x.s := by simp [Item.enc, h3]
                have c := rBytes (b := encs (l.drop a.i)) (e := 0) (most := 1000) (by omega)
                rw [hd, hen, bytesR_put (by omega) (by omega), ← hen, ← hd] at c
                conv => arg 4; whnf
                refine holds_out [0] c rfl ⟨⟨by decide, by rw [ren_RH']; rfl⟩, trivial⟩ rfl ?_
                conv => arg 4; whnf
                simp only [renL_u8s]
                refine ⟨rfl, ?_⟩
                conv => arg 4; whnf
                refine ⟨x.s, rfl, ?_⟩
                conv => arg 4; whnf
                refine ⟨fun h => absurd h (by simp), fun _ => ?_⟩
                conv => arg 4; whnf
                refine ⟨⟨a.i + 1, hi⟩, by show l.length - (a.i + 1) < l.length - a.i; omega, WkG.of rfl rfl ⟨Le.of_eq (succ_int (by omega)), Le.refl _ _, Le.refl _ _, trivial⟩ ⟨⟨_, rfl, LeO.refl _ _⟩, trivial⟩ ⟨rfl, rfl, cut_items l, trivial⟩ ⟨⟨by decide, by rw [ren_RH']⟩, trivial⟩⟩
              · have h3 : x.kind ≠ 3 := by simpa using h3
                conv => arg 4; whnf
                refine ⟨fun h4 => ?_, fun h4 => ?_⟩
                · have h4 : x.kind = 4 := by simpa using h4
                  have hen : x.enc = put x.s.length ++ x.s := by simp [Item.enc, h4]
                  have c := rText (b := encs (l.drop a.i)) (e := 0) (most := 1000) (by omega)
                  rw [hd, hen, bytesR_put (by omega) (by omega), ← hen, ← hd] at c
                  conv => arg 4; whnf
                  refine holds_out [0] c rfl ⟨⟨by decide, by rw [ren_RH']; rfl⟩, trivial⟩ rfl ?_
                  conv => arg 4; whnf
                  simp only [renL_u8s]
                  refine ⟨rfl, ?_⟩
                  conv => arg 4; whnf
                  refine ⟨fun h => absurd h (by simp), fun _ => ?_⟩
                  conv => arg 4; whnf
                  refine ⟨⟨a.i + 1, hi⟩, by show l.length - (a.i + 1) < l.length - a.i; omega, WkG.of rfl rfl ⟨Le.of_eq (succ_int (by omega)), Le.refl _ _, Le.refl _ _, trivial⟩ ⟨⟨_, rfl, LeO.refl _ _⟩, trivial⟩ ⟨rfl, rfl, cut_items l, trivial⟩ ⟨⟨by decide, by rw [ren_RH']⟩, trivial⟩⟩
                · have h4 : x.kind ≠ 4 := by simpa using h4
                  have hen : x.enc = [] := by simp [Item.enc, h1, h2, h3, h4]
                  rw [hen] at hd
                  conv => arg 4; whnf
                  rw [hd]
                  refine ⟨⟨a.i + 1, hi⟩, by show l.length - (a.i + 1) < l.length - a.i; omega, WkG.of rfl rfl ⟨Le.of_eq (succ_int (by omega)), Le.refl _ _, Le.refl _ _, trivial⟩ ⟨⟨_, rfl, LeO.refl _ _⟩, trivial⟩ ⟨rfl, rfl, cut_items l, trivial⟩ ⟨⟨by decide, by rw [ren_RH']⟩, trivial⟩⟩
        · have hi : a.i = l.length := by simp [items] at h; omega
          have hdn : encs (l.drop a.i) = [] := by rw [hi, List.drop_length]; rfl
          rw [hdn]
          conv => arg 4; whnf
          refine holds_out [0] (rErr (b := []) (e := 0)) rfl ⟨⟨by decide, by rw [ren_RH']; rfl⟩, trivial⟩ rfl ?_
          conv => arg 4; whnf
          simp only [renL_u8s]
          refine ⟨fun _ => ?_, fun h => absurd h (by simp)⟩
          conv => arg 4; whnf
          refine holds_out [0] (rLeft (b := []) (e := 0)) rfl ⟨⟨by decide, by rw [ren_RH']; rfl⟩, trivial⟩ rfl ?_
          conv => arg 4; whnf
          simp only [renL_u8s]
          refine ⟨fun _ => ?_, fun h => absurd h (by simp)⟩
          conv => arg 4; whnf
          refine holds_out [] awake rfl trivial rfl ?_
          conv => arg 4; whnf
          exact .inl rfl
end Go.Proofs.Ytlcanameloklbaa

namespace Go.Proofs.Ytlcanameloklbaa
set_option maxRecDepth 100000
set_option maxHeartbeats 80000000
open Go.Sym

theorem getL_take : ∀ (i u v c : Nat), c < (putU v).length → getL i u ((putU v).take c) = none := by
  intro i u v
  induction v using Nat.strongRecOn generalizing i u with
  | ind v ih =>
    intro c hc
    cases c with
    | zero => simp [getL]
    | succ c =>
      by_cases hs : v < 128
      · rw [putU_small hs] at hc; simp at hc
      · rw [putU_big hs] at hc ⊢
        simp only [List.length_cons, List.take_succ_cons, getL] at hc ⊢
        split
        · rfl
        · rw [if_pos (by rw [bt_toNat (by omega)]; omega)]
          exact ih (v / 128) (by omega) _ _ c (by omega)

/-- What is cut is none. -/
theorem bytesR_cut {n : Nat} {r : List UInt8} {c : Nat} (hn : n ≤ 1000000) (hc : c ≤ n) (most : Int) : ∃ b, bytesR ((put n ++ r).take c) 0 most = ([], b, 2) := by
  have hi : I64 (n : Int) := by unfold I64; omega
  unfold bytesR
  rw [if_neg (by simp)]
  by_cases h : c < (put n).length
  · have e : (put n ++ r).take c = (put n).take c := by rw [List.take_append_of_le_length (by omega)]
    rw [e]
    unfold put at h ⊢
    rw [getL_take 0 0 _ c h]
    exact ⟨_, rfl⟩
  · have e : (put n ++ r).take c = put n ++ r.take (c - (put n).length) := by rw [List.take_append, List.take_of_length_le (by omega)]
    have h := getL_put 0 0 (zig n) (r.take (c - (put n).length)) (by omega) (by simpa using zig_lt hi) (.inl rfl)
    have hp : 0 < (put (n : Int)).length := by
      unfold put; rw [putU]; split <;> simp
    have hl : ((put n ++ r).take c).length ≤ c := by simp; omega
    rw [e] at hl ⊢
    unfold put at hl hp h ⊢
    rw [h]
    simp only [Nat.pow_zero, Nat.mul_one, Nat.zero_add, zag_zig hi]
    rw [if_pos (by right; omega)]
    exact ⟨_, rfl⟩

theorem bytesR_big {s r : List UInt8} {most : Int} (hs : (s.length : Int) > most) (hl : s.length ≤ 1000000000) : bytesR (put s.length ++ s ++ r) 0 most = ([], put s.length ++ s ++ r, 3) := by
  have hn : I64 (s.length : Int) := by unfold I64; omega
  have h := getL_put 0 0 (zig s.length) (s ++ r) (by omega) (by simpa using zig_lt hn) (.inl rfl)
  unfold bytesR put
  rw [if_neg (by simp), List.append_assoc, h]
  simp only [Nat.pow_zero, Nat.mul_one, Nat.zero_add, zag_zig hn]
  rw [if_neg (by simp; omega), if_pos (by omega)]

theorem round {k n : Int} (hk : I64 k) (hn : 1 ≤ n ∧ n ≤ 1000000) : ∃ c : Nat, (c : Int) < n ∧ (c : Int) = k % n ∧ CallOK Try.prog 18 [.int .i64 k, .int .i64 n] [] 0 (Out (.int .i64 c) [] 0) := by
  have h1 := Int.emod_nonneg k (show n ≠ 0 by omega)
  have h2 := Int.emod_lt_of_pos k (show 0 < n by omega)
  refine ⟨(k % n).toNat, by omega, by omega, ?_⟩
  rw [Int.toNat_of_nonneg h1]
  refine callOK Try.call18 Try.func18 Try.ntmps18 rfl ?_
  conv => arg 4; whnf
  refine ⟨by omega, ?_⟩
  have e : k.tmod n = k % n ∨ k.tmod n = k % n - n ∧ k % n ≠ 0 := by
    have e := Int.tmod_eq_emod (a := k) (b := n)
    split at e
    · exact .inl (by omega)
    · rename_i hq
      refine .inr ⟨by omega, fun h0 => hq (.inr (Int.dvd_of_emod_eq_zero h0))⟩
  conv => arg 4; whnf
  refine ⟨fun h => ?_, fun h => ?_⟩
  · have h : k.tmod n < 0 := by simpa using h
    conv => arg 4; whnf
    refine ⟨?_, rfl, rfl⟩
    congr 1
    rw [IntKind.wrap_i64]
    omega
  · have h : ¬ k.tmod n < 0 := by simpa using h
    conv => arg 4; whnf
    refine ⟨?_, rfl, rfl⟩
    congr 1
    omega

theorem zeros (n : Nat) : List.replicate n (zeroT Try.prog 5) = u8s (List.replicate n 0) := by
  induction n with
  | zero => rfl
  | succ n ih =>
    simp only [List.replicate_succ, u8s, List.map_cons]
    rw [ih]; rfl

set_option maxRecDepth 100000 in
theorem limits {n most cut : Int} (hn : I64 n) (hm : I64 most) (hc : I64 cut) : CallOK Try.prog 5 [.int .i64 n, .int .i64 most, .int .i64 cut] [] 0 (fun a _ _ => a = .bool true ∨ a = .bl true) := by
  refine callOK Try.call5 Try.func5 Try.ntmps5 rfl ?_
  conv => arg 4; whnf
  refine ⟨fun h => ?_, fun h => ?_⟩
  · conv => arg 4; whnf
    refine holds_out [] awake rfl trivial rfl ?_
    conv => arg 4; whnf
    exact .inl rfl
  · have h : 0 ≤ n ∧ n ≤ 500 ∧ 0 ≤ most ∧ most ≤ 600 := by
      by_cases q1 : n < 0
      · simp [q1] at h
      by_cases q2 : n > 500
      · simp [q2] at h
      by_cases q3 : most < 0
      · simp [q3] at h
      simp [q1, q2, q3] at h
      omega
    obtain ⟨n, rfl⟩ : ∃ k : Nat, n = k := ⟨n.toNat, by omega⟩
    conv => arg 4; whnf
    refine ⟨⟨by omega, rfl, ?_, by omega⟩, .inl ?_⟩
    · show (n : Int) * 1 ≤ _
      omega
    conv => arg 4; whnf
    simp only [Int.toNat_natCast, zeros]
    refine holds_pre (args' := [.ptr 0 0, .sl .none 0 (u8s (List.replicate n 0))]) (h' := WH [] 0 false) (nx' := 2) ((Gh.token _ _ _ _).trans (Gh.le (ArgsLe.get ⟨Le.refl _ _, Le.none, trivial⟩) (HeapLe.le ⟨⟨_, rfl, LeL.cons (Le.nilsTok rfl) (.cons Le.bl (LeL.nil _))⟩, ⟨_, rfl, rfl⟩, trivial⟩))) rfl ?_
    refine holds_out [0, 1] (wBytes (b := List.replicate n 0) (l := []) (s := 0) (bad := false) (by simp; omega)) rfl ⟨⟨by decide, by (try simp only [renO, renL, renL_u8s, ren, u8s_length]) <;> rfl⟩, ⟨by decide, rfl⟩, trivial⟩ (by (try simp only [renO, renL, renL_u8s, ren, u8s_length]) <;> rfl) ?_
    conv => arg 4; whnf
    simp only [renL_u8s, List.length_replicate, List.nil_append]
    have hp := put_len hn
    obtain ⟨b, hbd⟩ : ∃ b, b = put (n : Int) ++ List.replicate n 0 ++ put 7 := ⟨_, rfl⟩
    refine holds_out [0, 1] (wNum (n := 7) (by unfold I64; omega) (l := put n ++ List.replicate n 0) (s := 2) (bad := false) (by simp; omega)) rfl ⟨⟨by decide, by (try simp only [renO, renL, renL_u8s, ren, u8s_length]) <;> rfl⟩, ⟨by decide, rfl⟩, trivial⟩ (by (try simp only [renO, renL, renL_u8s, ren, u8s_length]) <;> rfl) ?_
    have hb7 : put 7 = [14] := by unfold put zig; rw [putU]; decide
    have hbl : b.length ≤ 10 + n + 1 := by rw [hbd, hb7]; simp; omega
    have hbg : n + 2 ≤ b.length := by
      have : 0 < (put (n : Int)).length := by
        unfold put; rw [putU]; split <;> simp
      rw [hbd, hb7]; simp; omega
    rw [← hbd]
    conv => arg 4; whnf
    simp only [renL_u8s]
    refine holds_out [0, 1] (wDone (l := b) (s := 3) (bad := false) (by omega)) rfl ⟨⟨by decide, by (try simp only [renO, renL, renL_u8s, ren, u8s_length]) <;> rfl⟩, ⟨by decide, rfl⟩, trivial⟩ (by (try simp only [renO, renL, renL_u8s, ren, u8s_length]) <;> rfl) ?_
    conv => arg 4; whnf
    simp only [renL_u8s, Bool.false_eq_true, if_false]
    refine ⟨fun h => absurd h (by simp), fun _ => ?_⟩
    conv => arg 4; whnf
    refine holds_out [] (newReader (b := b) (by omega)) rfl trivial (by (try simp only [renO, renL, renL_u8s, ren, u8s_length]) <;> rfl) ?_
    simp only [renL_u8s]
    conv => arg 4; whnf
    obtain ⟨c, hc1, -, hc2⟩ := round hc (n := n + 1) (by omega)
    have hw1 : IntKind.i64.wrap ((n : Int) + 1) = n + 1 := by rw [IntKind.wrap_i64]; omega
    rw [hw1]
    refine holds_out [] hc2 rfl trivial rfl ?_
    simp only [renL_u8s]
    conv => arg 4; whnf
    refine ⟨by rw [u8s_length]; omega, ?_⟩
    simp only [Int.toNat_natCast, u8s_take]
    conv => arg 4; whnf
    refine holds_out [] (newReader (b := b.take c) (by simp; omega)) rfl trivial (by (try simp only [renO, renL, renL_u8s, ren, u8s_length]) <;> rfl) ?_
    simp only [renL_u8s]
    conv => arg 4; whnf
    simp only [renL_u8s]
    have cb := rBytes (b := b) (e := 0) (most := most) (by omega)
    refine holds_out [2] cb rfl ⟨⟨by decide, by rw [ren_RH']; rfl⟩, trivial⟩ rfl ?_
    conv => arg 4; whnf
    simp only [renL_u8s]
    refine ⟨fun q => ?_, fun q => ?_⟩
    · have q : (n : Int) > most := by simpa using q
      have hbb : bytesR b 0 most = ([], b, 3) := by
        have := bytesR_big (s := List.replicate n 0) (r := put 7) (most := most) (by simpa using q) (by simp; omega)
        simp only [List.length_replicate] at this
        rw [hbd, this]
      rw [hbb]
      conv => arg 4; whnf
      refine ⟨fun h => absurd h (by first | (simp; done) | (simp [u8s]; done)), fun _ => ?_⟩
      conv => arg 4; whnf
      refine holds_out [2] (rErr (b := b) (e := 3)) rfl ⟨⟨by decide, by rw [ren_RH']; rfl⟩, trivial⟩ rfl ?_
      conv => arg 4; whnf
      simp only [renL_u8s]
      refine ⟨fun h => absurd h (by first | (simp; done) | (simp [u8s]; done)), fun _ => ?_⟩
      conv => arg 4; whnf
      refine holds_out [2] (rNum (b := b) (e := 3) (by omega)) rfl ⟨⟨by decide, by rw [ren_RH']; rfl⟩, trivial⟩ rfl ?_
      conv => arg 4; whnf
      simp only [renL_u8s]
      rw [show numR b 3 = (0, b, 3) from by simp [numR]]
      refine ⟨fun h => absurd h (by first | (simp; done) | (simp [u8s]; done)), fun _ => ?_⟩
      conv => arg 4; whnf
      refine holds_out [2] (rLeft (b := b) (e := 3)) rfl ⟨⟨by decide, by rw [ren_RH']; rfl⟩, trivial⟩ rfl ?_
      conv => arg 4; whnf
      simp only [renL_u8s]
      refine ⟨fun h => absurd h (by first | (simp; done) | (simp [u8s]; done)), fun _ => ?_⟩
      conv => arg 4; whnf
      obtain ⟨b', hcut⟩ := bytesR_cut (n := n) (r := List.replicate n 0 ++ put 7) (c := c) (by omega) (by omega) 600
      rw [← List.append_assoc, ← hbd] at hcut
      have ct := rText (b := b.take c) (e := 0) (most := 600) (by simp; omega)
      rw [hcut] at ct
      refine holds_out [3] ct rfl ⟨⟨by decide, by rw [ren_RH']; rfl⟩, trivial⟩ rfl ?_
      conv => arg 4; whnf
      simp only [renL_u8s]
      refine ⟨fun _ => ?_, fun h => absurd h (by first | (simp; done) | (simp [u8s]; done))⟩
      conv => arg 4; whnf
      refine holds_out [3] (rErr (b := b') (e := 2)) rfl ⟨⟨by decide, by rw [ren_RH']; rfl⟩, trivial⟩ rfl ?_
      conv => arg 4; whnf
      simp only [renL_u8s]
      refine ⟨fun _ => ?_, fun h => absurd h (by first | (simp; done) | (simp [u8s]; done))⟩
      conv => arg 4; whnf
      refine holds_out [] awake rfl trivial rfl ?_
      conv => arg 4; whnf
      exact .inl rfl
    · have q : ¬ (n : Int) > most := by simpa using q
      have hbb : bytesR b 0 most = (List.replicate n 0, put 7, 0) := by
        have := bytesR_put (s := List.replicate n 0) (r := put 7) (most := most) (by simp; omega) (by simp; omega)
        simp only [List.length_replicate] at this
        rw [hbd, this]
      rw [hbb]
      conv => arg 4; whnf
      refine ⟨fun h => absurd h (by simp [u8s_length]), fun _ => ?_⟩
      conv => arg 4; whnf
      have c7 := rNum (b := put 7) (e := 0) (by rw [hb7]; simp)
      have e7 := numR_put (n := 7) (by unfold I64; omega) []
      rw [List.append_nil] at e7
      rw [e7] at c7
      refine holds_out [2] c7 rfl ⟨⟨by decide, by rw [ren_RH']; rfl⟩, trivial⟩ rfl ?_
      conv => arg 4; whnf
      simp only [renL_u8s]
      refine ⟨fun h => absurd h (by first | (simp; done) | (simp [u8s]; done)), fun _ => ?_⟩
      conv => arg 4; whnf
      refine holds_out [2] (rErr (b := []) (e := 0)) rfl ⟨⟨by decide, by rw [ren_RH']; rfl⟩, trivial⟩ rfl ?_
      conv => arg 4; whnf
      simp only [renL_u8s]
      refine ⟨fun h => absurd h (by first | (simp; done) | (simp [u8s]; done)), fun _ => ?_⟩
      conv => arg 4; whnf
      obtain ⟨b', hcut⟩ := bytesR_cut (n := n) (r := List.replicate n 0 ++ put 7) (c := c) (by omega) (by omega) 600
      rw [← List.append_assoc, ← hbd] at hcut
      have ct := rText (b := b.take c) (e := 0) (most := 600) (by simp; omega)
      rw [hcut] at ct
      refine holds_out [3] ct rfl ⟨⟨by decide, by rw [ren_RH']; rfl⟩, trivial⟩ rfl ?_
      conv => arg 4; whnf
      simp only [renL_u8s]
      refine ⟨fun _ => ?_, fun h => absurd h (by first | (simp; done) | (simp [u8s]; done))⟩
      conv => arg 4; whnf
      refine holds_out [3] (rErr (b := b') (e := 2)) rfl ⟨⟨by decide, by rw [ren_RH']; rfl⟩, trivial⟩ rfl ?_
      conv => arg 4; whnf
      simp only [renL_u8s]
      refine ⟨fun _ => ?_, fun h => absurd h (by first | (simp; done) | (simp [u8s]; done))⟩
      conv => arg 4; whnf
      refine holds_out [] awake rfl trivial rfl ?_
      conv => arg 4; whnf
      exact .inl rfl
end Go.Proofs.Ytlcanameloklbaa

namespace Go.Proofs.Ytlcanameloklbaa
set_option maxRecDepth 100000
set_option maxHeartbeats 80000000
open Go.Sym

theorem or_byte' {u : Nat} {c : UInt8} (hu : u < 72057594037927936) : (BitVec.ofNat 64 (u * 256) ||| BitVec.ofNat 64 c.toNat).toNat = u * 256 + c.toNat := by
  have hc : c.toNat < 256 := c.toNat_lt
  rw [BitVec.toNat_or]
  simp only [BitVec.toNat_ofNat]
  rw [Nat.mod_eq_of_lt (show u * 256 < 2 ^ 64 by omega), Nat.mod_eq_of_lt (show c.toNat < 2 ^ 64 by omega)]
  have hc' : c.toNat < 2 ^ 8 := hc
  rw [show u * 256 = u * 2 ^ 8 from rfl, ← Nat.shiftLeft_eq, ← Nat.shiftLeft_add_eq_or_of_lt hc']

theorem or_byte_u {u : Nat} {c : UInt8} (hu : u < 72057594037927936) :
    IntKind.u64.wrap (BitVec.ofInt IntKind.u64.bits (IntKind.u64.wrap ((u : Int) * 2 ^ (min (8 : Int).toNat IntKind.u64.bits))) ||| BitVec.ofInt IntKind.u64.bits (IntKind.u64.wrap (c.toNat : Int))).toNat = ((u * 256 + c.toNat : Nat) : Int) := by
  have hc : c.toNat < 256 := c.toNat_lt
  have e1 : (2 : Int) ^ (min (8 : Int).toNat IntKind.u64.bits) = 256 := by decide
  have e3 : IntKind.u64.bits = 64 := rfl
  have e4 : IntKind.u64.wrap ((u : Int) * 256) = ((u * 256 : Nat) : Int) := by rw [IntKind.wrap_u64]; omega
  have e5 : IntKind.u64.wrap (c.toNat : Int) = (c.toNat : Int) := by rw [IntKind.wrap_u64]; omega
  rw [e1, e3, e4, e5, ofInt_nat, ofInt_nat, or_byte' hu, IntKind.wrap_u64]
  omega

structure GfI (l : List UInt8) where
  i : Nat
  u : Nat
  hi : i ≤ l.length
  h : unfixed u (l.drop i) = unfixed 0 l
  hu : u < 256 ^ i

theorem refGetFixed {b : List UInt8} (hb : b.length ≤ 8) : CallOK Try.prog 19 [.sl .none 0 (u8s b)] [] 0 (Out (.int .i64 (IntKind.i64.wrap (unfixed 0 b : Nat))) [] 0) := by
  refine callOK Try.call19 Try.func19 Try.ntmps19 rfl ?_
  conv => arg 4; whnf
  refine tri_loopG (ι := GfI b) (fun a => ⟨[(4, .int .i64 a.i), (3, .int .u64 a.u), (0, .sl .none 0 (u8s b))], [], 0, 21⟩) (fun a => b.length - a.i) ⟨0, 0, Nat.zero_le _, rfl, by simp⟩ ?_ ?_
  · exact WkG.of rfl rfl ⟨Le.refl _ _, Le.refl _ _, Le.refl _ _, trivial⟩ trivial ⟨rfl, rfl, cut_ok rfl, trivial⟩ trivial
  · intro a
    have hai := a.hi
    have hh := a.h
    have hu := a.hu
    conv => arg 4; whnf
    refine ⟨fun h => ?_, fun h => ?_⟩
    · have hi : a.i < b.length := by simp [u8s_length] at h; omega
      have hg : (u8s b)[((a.i : Nat) : Int).toNat]? = some (u8 b[a.i]) := by simp [u8s, hi]
      have hlt : a.u < 72057594037927936 := by
        have : 256 ^ a.i ≤ 256 ^ 7 := Nat.pow_le_pow_right (by omega) (by omega)
        have e : (256 : Nat) ^ 7 = 72057594037927936 := by decide
        omega
      rw [List.drop_eq_getElem_cons hi] at hh
      conv => arg 4; whnf
      refine ⟨by decide, ?_⟩; conv => arg 4; whnf
      refine ⟨_, ⟨by omega, hg⟩, ?_⟩
      conv => arg 4; whnf
      refine ⟨⟨a.i + 1, a.u * 256 + b[a.i].toNat, hi, hh, ?_⟩, by show b.length - (a.i + 1) < b.length - a.i; omega, WkG.of rfl rfl ⟨Le.of_eq (succ_int (by omega)), Le.of_eq ?_, Le.refl _ _, trivial⟩ trivial ⟨rfl, rfl, cut_ok rfl, trivial⟩ trivial⟩
      · have := b[a.i].toNat_lt
        rw [Nat.pow_succ]; omega
      · conv => lhs; whnf
        rw [or_byte_u hlt]
    · have hi : a.i = b.length := by simp [u8s_length] at h; omega
      rw [hi, List.drop_length] at hh
      conv => arg 4; whnf
      exact ⟨by rw [← hh]; rfl, rfl, rfl⟩
abbrev bs' (l : List UInt8) : AV := .sl .none 0 (u8s l)

/-- What the document's bytes are. -/
def bytesA (b : List UInt8) (most : Int) : AV :=
  match getL 0 0 b with
  | some (u, k) => if zag u < 0 ∨ zag u > b.length - k then .tup [bs' [], bs' [], .int .i64 2] else if zag u > most then .tup [bs' [], bs' [], .int .i64 3] else .tup [bs' ((b.drop k).take (zag u).toNat), bs' ((b.drop k).drop (zag u).toNat), .int .i64 0]
  | none => .tup [bs' [], bs' [], .int .i64 2]

theorem refGetBytes {b : List UInt8} {most : Int} (hb : b.length ≤ 100000000000000) : CallOK Try.prog 23 [.sl .none 0 (u8s b), .int .i64 most] [] 0 (Out (bytesA b most) [] 0) := by
  refine CallOK.le ?_
  refine callOK Try.call23 Try.func23 Try.ntmps23 rfl ?_
  have c := refGet hb
  unfold getB at c
  have e2 : Le [] (.tup [.nils, .nils, .int .i64 2]) (.tup [bs' [], bs' [], .int .i64 2]) := Le.tup (.cons Le.nils (.cons Le.nils (LeL.refl _ _)))
  have e3 : Le [] (.tup [.nils, .nils, .int .i64 3]) (.tup [bs' [], bs' [], .int .i64 3]) := Le.tup (.cons Le.nils (.cons Le.nils (LeL.refl _ _)))
  unfold bytesA
  conv => arg 4; whnf
  cases hget : getL 0 0 b with
  | none =>
    rw [hget] at c
    refine holds_out [] c rfl trivial (by (try simp only [renO, renL, renL_u8s, ren, u8s_length]) <;> rfl) ?_
    conv => arg 4; whnf
    refine ⟨fun _ => ?_, fun h => (by simp at h)⟩
    conv => arg 4; whnf
    exact ⟨e2, rfl, rfl⟩
  | some uk =>
    obtain ⟨u, k⟩ := uk
    rw [hget] at c
    have hk := getL_le hget
    refine holds_out [] c rfl trivial (by (try simp only [renO, renL, renL_u8s, ren, u8s_length]) <;> rfl) ?_
    conv => arg 4; whnf
    simp only [Option.some.injEq, Prod.mk.injEq] at hget ⊢
    have hw : IntKind.i64.wrap (((u8s b).length : Int) - (k : Int)) = (b.length : Int) - k := by rw [IntKind.wrap_i64, u8s_length]; omega
    refine ⟨fun q => ?_, fun q => ?_⟩
    · have q : zag u < 0 := by
        cases hk0 : ((k : Int) == 0) with
        | true => simp at hk0; omega
        | false => rw [hk0] at q; simpa using q
      rw [if_pos (.inl q)]
      conv => arg 4; whnf
      exact ⟨e2, rfl, rfl⟩
    · have q : ¬ zag u < 0 := by
        cases hk0 : ((k : Int) == 0) with
        | true => simp at hk0; omega
        | false => rw [hk0] at q; simpa using q
      conv => arg 4; whnf
      rw [hw]
      refine ⟨fun q2 => ?_, fun q2 => ?_⟩
      · have q2 : zag u > b.length - k := by simpa using q2
        rw [if_pos (.inr q2)]
        conv => arg 4; whnf
        exact ⟨e2, rfl, rfl⟩
      · have q2 : ¬ zag u > b.length - k := by simpa using q2
        rw [if_neg (by omega)]
        conv => arg 4; whnf
        refine ⟨fun q3 => ?_, fun q3 => ?_⟩
        · have q3 : zag u > most := by simpa using q3
          rw [if_pos q3]
          conv => arg 4; whnf
          exact ⟨e3, rfl, rfl⟩
        · have q3 : ¬ zag u > most := by simpa using q3
          rw [if_neg q3]
          obtain ⟨n, hn⟩ : ∃ n : Nat, zag u = n := ⟨(zag u).toNat, by omega⟩
          rw [hn]
          rw [hn] at q2
          have hw2 : IntKind.i64.wrap ((k : Int) + n) = ((k + n : Nat) : Int) := by rw [IntKind.wrap_i64]; omega
          conv => arg 4; whnf
          rw [hw2]
          refine ⟨by simp [u8s_length]; omega, ?_⟩
          conv => arg 4; whnf
          rw [hw2]
          refine ⟨by simp [u8s_length]; omega, ?_⟩
          conv => arg 4; whnf
          refine ⟨Le.of_eq ?_, rfl, rfl⟩
          simp only [Int.toNat_natCast, u8s_take, u8s_drop, bs']
          congr 3
          · rw [List.drop_take]
            congr 2
            omega
          · rw [List.drop_drop]
end Go.Proofs.Ytlcanameloklbaa

namespace Go.Proofs.Ytlcanameloklbaa
set_option maxRecDepth 100000
set_option maxHeartbeats 80000000
open Go.Sym

structure FxX where
  v : Int
  r : List UInt8
  e : Int
structure ByX where
  v : List UInt8
  r : List UInt8
  e : Int
abbrev RO (r : List UInt8) (e : Int) : AObj := .cells [.sl .none 0 (u8s r), .int .i64 e]
theorem ClO.RO (r : List UInt8) (e : Int) : ClO (RO r e) := ClO.cells (ClL.cons (Cl.bs _) (ClL.cons (Cl.int _ _) ClL.nil))

theorem fixedR_suf (b : List UInt8) (e size : Int) : (fixedR b e size).2.1 <:+ b := by
  unfold fixedR
  split
  · exact List.suffix_refl _
  · split
    · exact List.suffix_refl _
    · exact List.drop_suffix _ _
theorem numR_suf (b : List UInt8) (e : Int) : (numR b e).2.1 <:+ b := by
  unfold numR
  split
  · exact List.suffix_refl _
  · split
    · exact List.drop_suffix _ _
    · exact List.suffix_refl _
theorem bytesR_suf (b : List UInt8) (e most : Int) : (bytesR b e most).2.1 <:+ b := by
  unfold bytesR
  split
  · exact List.suffix_refl _
  · split
    · split
      · exact List.suffix_refl _
      · split
        · exact List.suffix_refl _
        · exact (List.drop_suffix _ _).trans (List.drop_suffix _ _)
    · exact List.suffix_refl _
theorem bytesR_len (b : List UInt8) (e most : Int) : (bytesR b e most).1.length ≤ b.length := by
  unfold bytesR
  split
  · simp
  · split
    · split
      · simp
      · split
        · simp
        · simp; omega
    · simp

theorem rFixedE {b : List UInt8} {e size : Int} (hs : I64 size) (hb : b.length ≤ 100000000000000) : CallOK Try.prog 20 [.ptr 0 0, .int .i64 size] (RH b e) 1
    (fun a h m => ∃ x : FxX, (fixedR b e size = (x.v, x.r, x.e) ∧ x.r <:+ b) ∧ Out (.int .i64 x.v) [(0, RO x.r x.e)] 1 a h m) :=
  (rFixed hs hb).mono fun _ _ _ h => ⟨⟨_, _, _⟩, ⟨rfl, fixedR_suf b e size⟩, h⟩
theorem rNumE {b : List UInt8} {e : Int} (hb : b.length ≤ 100000000000000) : CallOK Try.prog 22 [.ptr 0 0] (RH b e) 1
    (fun a h m => ∃ x : FxX, (numR b e = (x.v, x.r, x.e) ∧ x.r <:+ b) ∧ Out (.int .i64 x.v) [(0, RO x.r x.e)] 1 a h m) :=
  (rNum hb).mono fun _ _ _ h => ⟨⟨_, _, _⟩, ⟨rfl, numR_suf b e⟩, h⟩
theorem rBytesE {b : List UInt8} {e most : Int} (hb : b.length ≤ 100000000000000) : CallOK Try.prog 24 [.ptr 0 0, .int .i64 most] (RH b e) 1
    (fun a h m => ∃ x : ByX, (bytesR b e most = (x.v, x.r, x.e) ∧ x.r <:+ b ∧ x.v.length ≤ b.length) ∧ Out (.sl .none 0 (u8s x.v)) [(0, RO x.r x.e)] 1 a h m) :=
  (rBytes hb).mono fun _ _ _ h => ⟨⟨_, _, _⟩, ⟨rfl, bytesR_suf b e most, bytesR_len b e most⟩, h⟩
end Go.Proofs.Ytlcanameloklbaa
