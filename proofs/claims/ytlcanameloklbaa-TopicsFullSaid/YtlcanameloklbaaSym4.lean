/-
  A region whose order is drawn, whole; then code.
-/
import Derived.Test.YtlcanameloklbaaSym3
import Derived.WalkKit
import Derived.ProofKit
import Derived.OpenShut
import Derived.ShutString
import Derived.ChangeOld
import Derived.SizedLaws
set_option linter.unusedVariables false
set_option linter.unusedSimpArgs false
namespace Go.Sym

section
variable {n0 n : Nat} {fr : Option Nat} {P : Program} {Q : AExit → St → Prop} {K : AV → Heap → Nat → Prop} {ops : Array Oper}

/-- What is still to run. -/
def Rem (ops : Array Oper) (L : Array Bool) (fuel : Nat) : Prop := ∃ l : List Nat, l.length ≤ fuel ∧ ∀ i, i < ops.size → L.getD i false = false → i ∈ l

/-- Where the region leads, from such a state. -/
def Fin (n0 : Nat) (P : Program) (Q : AExit → St → Prop) (K : AV → Heap → Nat → Prop) (k : St → R) (QQ : Exit → Act → World → Prop) (F : Fix) (V : View) (h : Heap) (sz : Sz) (w : World) : Prop :=
  ∀ s' F' V' a' w', s'.sz = sz → holds P Q K (k s') → Rep n0 F' V' s' a' w' → Step F V h w F' V' s'.h w' → QQ .normal a' w'

theorem Fin.step {k : St → R} {QQ : Exit → Act → World → Prop} {F F' : Fix} {V V' : View} {h h' : Heap} {sz : Sz} {w w' : World} (f : Fin n0 P Q K k QQ F V h sz w) (s : Step F V h w F' V' h' w') : Fin n0 P Q K k QQ F' V' h' sz w' :=
  fun s' F2 V2 a2 w2 h0 h1 h2 h3 => f s' F2 V2 a2 w2 h0 h1 h2 (s.trans h3)

theorem ready_lt {A m0 : Nat} {eb : Nat → Nat} {L : Array Bool} {s : DS} {F : Fix} {V : View} {a : Act} {w : World} (di : DI n0 P ops A m0 eb s L F V a w) {i : Nat} (hr : i ∈ Region.ready .any ops L) : i < ops.size ∧ L.getD i false = false := by
  obtain ⟨hun, o, ho, -⟩ := mem_ready.1 hr
  have hlt : i < ops.size := (Array.getElem?_eq_some_iff.1 ho).1
  refine ⟨hlt, ?_⟩
  have h2 : i < L.size := by rw [di.lsize]; exact hlt
  simp only [Array.getD_eq_getD_getElem?, Array.getElem?_eq_getElem h2, Option.getD_some] at hun ⊢
  exact hun

theorem Rem.take {L : Array Bool} {fuel : Nat} (hr : Rem ops L (fuel + 1)) {i : Nat} (hi : i < ops.size) (hl : L.getD i false = false) (hz : L.size = ops.size) : Rem ops (L.setIfInBounds i true) fuel := by
  obtain ⟨l, h1, h2⟩ := hr
  have hm := h2 i hi hl
  refine ⟨l.erase i, by rw [List.length_erase_of_mem hm]; omega, fun k hk hlk => ?_⟩
  rw [getD_setIf] at hlk
  by_cases e : i = k
  · subst e; simp [hz, hi] at hlk
  · simp only [e, false_and, if_false] at hlk
    exact (List.mem_erase_of_ne (Ne.symm e)).2 (h2 k hk hlk)

/-- From where the region began: what was made since then may get a name. -/
def Org (n0 : Nat) (P : Program) (Q : AExit → St → Prop) (K : AV → Heap → Nat → Prop) (k : St → R) (QQ : Exit → Act → World → Prop) (m0 : Nat) (F : Fix) (V : View) (h : Heap) (sz : Sz) (w : World) : Prop :=
  ∃ F0 V0 h0 w0, m0 = w0.heap.size ∧ Step F0 V0 h0 w0 F V h w ∧ Fin n0 P Q K k QQ F0 V0 h0 sz w0

theorem Org.step {k : St → R} {QQ : Exit → Act → World → Prop} {m0 : Nat} {F F' : Fix} {V V' : View} {h h' : Heap} {sz : Sz} {w w' : World} (f : Org n0 P Q K k QQ m0 F V h sz w) (s : Step F V h w F' V' h' w') : Org n0 P Q K k QQ m0 F' V' h' sz w' := by
  obtain ⟨F0, V0, h0, w0, e, s0, f0⟩ := f
  exact ⟨F0, V0, h0, w0, e, s0.trans s, f0⟩
theorem Org.size {k : St → R} {QQ : Exit → Act → World → Prop} {m0 : Nat} {F : Fix} {V : View} {h : Heap} {sz : Sz} {w : World} (f : Org n0 P Q K k QQ m0 F V h sz w) : m0 ≤ w.heap.size := by
  obtain ⟨F0, V0, h0, w0, rfl, s0, -⟩ := f
  exact s0.size
theorem Org.name {k : St → R} {QQ : Exit → Act → World → Prop} {m0 : Nat} {F : Fix} {V V' : View} {h h' : Heap} {sz : Sz} {w : World} (f : Org n0 P Q K k QQ m0 F V h sz w) {b : Nat} (hlo : m0 ≤ b) (hV : V.le V') (hO : ∀ c, Own V' h' c → Own V h c ∨ c = b) : Org n0 P Q K k QQ m0 F V' h' sz w := by
  obtain ⟨F0, V0, h0, w0, rfl, s0, f0⟩ := f
  exact ⟨F0, V0, h0, w0, rfl, s0.name hlo hV hO, f0⟩

theorem drain {A m0 j : Nat} {QQ : Exit → Act → World → Prop} {s : DS} {k : St → R} (hA : LateA P ops A) (hst : DSt ops s) (hj : s.dm.testBit j = false)
    (X : ∀ fuel L F V a w eb, DI n0 P ops A m0 eb s L F V a w → L.getD j false = false → Rem ops L (fuel + 1) → Org n0 P Q K k QQ m0 F V s.h s.sz w → ∀ i ∈ Region.ready .any ops L, s.dm.testBit i = false → (A.testBit i = true → i = j) → wpOpIn (wideR fr) n P ops QQ i (wpAnyIn (wideR fr) n P .any ops QQ fuel (L.setIfInBounds i true)) a w)
    (Z : ∀ L F V a w eb, DI n0 P ops A m0 eb s L F V a w → L.getD j false = false → Org n0 P Q K k QQ m0 F V s.h s.sz w → Region.ready .any ops L = [] → QQ .normal a w) :
    ∀ fuel L F V a w eb, DI n0 P ops A m0 eb s L F V a w → L.getD j false = false → Rem ops L fuel → Org n0 P Q K k QQ m0 F V s.h s.sz w → wpAnyIn (wideR fr) n P .any ops QQ fuel L a w := by
  intro fuel
  induction fuel with
  | zero =>
    intro L F V a w eb di hl hr hf
    have : Region.ready .any ops L = [] := by
      apply List.eq_nil_iff_forall_not_mem.2
      intro i hi
      obtain ⟨h1, h2⟩ := ready_lt di hi
      obtain ⟨l, h3, h4⟩ := hr
      have := h4 i h1 h2
      cases l with
      | nil => cases this
      | cons _ _ => simp at h3
    exact ⟨this, Z L F V a w eb di hl hf this⟩
  | succ fuel ih =>
    intro L F V a w eb di hl hr hf
    refine ⟨Z L F V a w eb di hl hf, fun i hi => ?_⟩
    obtain ⟨h1, h2⟩ := ready_lt di hi
    have hlj : i ≠ j → (L.setIfInBounds i true).getD j false = false := fun hne => by rw [getD_setIf]; simp [hne, hl]
    cases hdm : s.dm.testBit i with
    | false =>
      by_cases hAi : A.testBit i = true ∧ i ≠ j
      · refine exec_early hA hst di hi hdm hAi.1 hf.size fun eb' a' w' d1 d2 => ?_
        exact ih _ F V a' w' eb' d1 (hlj hAi.2) (hr.take h1 h2 di.lsize) (hf.step d2)
      · exact X fuel L F V a w eb di hl hr hf i hi hdm fun h => Decidable.byContradiction fun hne => hAi ⟨h, hne⟩
    | true =>
      refine exec_pending hA hst di hi hdm fun F' a' w' d1 d2 => ?_
      exact ih _ F' V a' w' eb d1 (hlj fun e => by subst e; rw [hj] at hdm; cases hdm) (hr.take h1 h2 di.lsize) (hf.step d2)

/-- Where nothing may come, all that was looked ahead has run. -/
theorem all_run {A m0 : Nat} {eb : Nat → Nat} {s : DS} {L : Array Bool} {F : Fix} {V : View} {a : Act} {w : World} (hst : DSt ops s) (di : DI n0 P ops A m0 eb s L F V a w) (hr : ∀ i ∈ Region.ready .any ops L, s.dm.testBit i = false) : ∀ i, s.dm.testBit i = true → L.getD i false = true := by
  refine hst.acyc (fun i => L.getD i false = true) fun i o hi ho ha => ?_
  cases hl : L.getD i false with
  | true => rfl
  | false =>
    exfalso
    have hlt := hst.lt i hi
    have : i ∈ Region.ready .any ops L := by
      rw [mem_ready]
      refine ⟨?_, o, ho, fun e he hb => ha e.on ((afterM_spec _ _).2 ⟨e, by simpa using he, hb, rfl⟩)⟩
      have h2 : i < L.size := by rw [di.lsize]; exact hlt
      simp only [Array.getD_eq_getD_getElem?, Array.getElem?_eq_getElem h2, Option.getD_some] at hl ⊢
      exact hl
    rw [hr i this] at hi; cases hi

theorem uniqM_spec {A dm e : Nat} : ∀ {l : List Oper} {n : Nat}, uniqM A dm e n l = true → ∀ (i : Nat) (o : Oper), l[i]? = some o → n + i ≠ e → dm.testBit (n + i) = false → A.testBit (n + i) = false → (∀ k, (afts o).testBit k = true → dm.testBit k = true ∨ A.testBit k = true) → False
  | [], n, _, i, o, h, _, _, _, _ => by simp at h
  | o0 :: r, n, hu, i, o, h, hne, hdm, hAi, ha => by
    unfold uniqM at hu
    cases hb : (Nat.beq n e || (bit dm n || (bit A n || !(subM (afterM o0.after.toList) (Nat.lor dm A))))) with
    | false => rw [hb] at hu; cases hu
    | true =>
    rw [hb] at hu
    simp only [cond_true] at hu
    cases i with
    | zero =>
      simp only [List.getElem?_cons_zero, Option.some.injEq] at h
      subst h
      simp only [Bool.or_eq_true, Bool.not_eq_true', Nat.add_zero] at hb hne hdm hAi
      rcases hb with hb | hb | hb | hb
      · exact hne (Nat.eq_of_beq_eq_true hb)
      · rw [bit_eq, hdm] at hb; cases hb
      · rw [bit_eq, hAi] at hb; cases hb
      · have := subM_of (a := afterM o0.after.toList) (b := Nat.lor dm A) fun k hk => by
          rw [lor_bit, Bool.or_eq_true]; exact ha k hk
        rw [hb] at this; cases this
    | succ i =>
      have e : n + 1 + i = n + (i + 1) := by omega
      refine uniqM_spec hu i o (by simpa using h) (by rw [e]; exact hne) (by rw [e]; exact hdm) (by rw [e]; exact hAi) ha

theorem full_bit {n i : Nat} : (2 ^ n - 1).testBit i = true ↔ i < n := by simp [Nat.testBit_two_pow_sub_one]

theorem drun_sound {A m0 : Nat} {QQ : Exit → Act → World → Prop} {k : St → R} (hA : LateA P ops A) : ∀ {π : List Nat} {s : DS} {fuel : Nat} {L : Array Bool} {F : Fix} {V : View} {a : Act} {w : World} {eb : Nat → Nat}, DSt ops s → DI n0 P ops A m0 eb s L F V a w → holds P Q K (drun P ops.toList A π s k) →
    Rem ops L fuel → Org n0 P Q K k QQ m0 F V s.h s.sz w → wpAnyIn (wideR fr) n P .any ops QQ fuel L a w
  | [], s, fuel, L, F, V, a, w, eb, hst, di, hh, hr, hf => by
    obtain ⟨env, h, nx, sz, dm, done, sk⟩ := s
    unfold drun at hh
    simp only at hh
    cases he : Nat.beq dm (2 ^ ops.toList.length - 1) with
    | false => rw [he] at hh; exact hh.elim
    | true =>
    rw [he] at hh
    simp only [cond_true] at hh
    have hdm : dm = 2 ^ ops.size - 1 := by simpa using Nat.eq_of_beq_eq_true he
    have hall : ∀ i, dm.testBit i = true ↔ i < ops.size := fun i => by rw [hdm, full_bit]
    have hdn : dm.testBit ops.size = false := by
      cases hx : dm.testBit ops.size with
      | false => rfl
      | true => exact absurd ((hall _).1 hx) (Nat.lt_irrefl _)
    refine drain (j := ops.size) hA hst hdn ?_ ?_ fuel L F V a w eb di (by simp [Array.getD_eq_getD_getElem?, ← di.lsize]) hr hf
    · intro fuel L F V a w eb di _ hr hf i hi hd _
      obtain ⟨h1, h2⟩ := ready_lt di hi
      simp only at hd
      rw [(hall i).2 h1] at hd; cases hd
    · intro L F V a w eb di _ hf hr
      have hrun := all_run hst di (by rw [hr]; simp)
      obtain ⟨F0, V0, h0, w0, -, s0, f0⟩ := hf
      refine f0 ⟨env, h, nx, sz⟩ F V a w rfl hh ⟨di.defers, di.size, fun t => ?_, di.inv, di.fresh⟩ s0
      refine (di.slots t (fun i o hi hl _ => by rw [hrun i hi] at hl; cases hl) fun i o hl hi hoi => ?_).1
      have := (hall i).2 (Array.getElem?_eq_some_iff.1 hoi).1
      rw [this] at hi; cases hi
  | j :: π, s, fuel, L, F, V, a, w, eb, hst, di, hh, hr, hf => by
    obtain ⟨env, h, nx, sz, dm, done, sk⟩ := s
    unfold drun at hh
    simp only [Array.getElem?_toList] at hh
    cases ho : ops[j]? with
    | none => rw [ho] at hh; exact hh.elim
    | some o =>
    rw [ho] at hh
    simp only at hh
    cases hchk : chkB ops.toList o j (befM (afterM o.after.toList) done) sz dm done sk with
    | false => rw [hchk] at hh; exact hh.elim
    | true =>
    rw [hchk] at hh
    simp only [cond_true] at hh
    simp only [chkB, Bool.and_eq_true, Bool.not_eq_true'] at hchk
    obtain ⟨c1, c2, c3, c4⟩ := hchk
    have hc : Chk ops ⟨env, h, nx, sz, dm, done, sk⟩ j o := by
      refine ⟨fun k hk => subM_spec c1 k hk, by rw [bit_eq] at c2; exact c2, c3, fun d hd => ?_⟩
      rw [hd] at c4
      simp only [Bool.and_eq_true, Bool.not_eq_true'] at c4
      obtain ⟨q1, q2, q3, q4⟩ := c4
      refine ⟨Nat.le_of_ble_eq_true q1, q2, fun hm => ?_, fun hm => ?_⟩
      · rw [(memN_iff _ _).2 hm] at q3; cases q3
      · rw [(memN_iff _ _).2 hm] at q4; cases q4
    have hnotA : isEff o.op = false → A.testBit j = false := fun he => by
      cases hx : A.testBit j with
      | false => rfl
      | true =>
        obtain ⟨o', ho', -, O, d, hop, -⟩ := hA j hx
        rw [ho] at ho'; cases ho'
        rw [(newO_op hop).1] at he; cases he
    have hnl : A.testBit j = false → L.getD j false = false := fun hx => by
      cases hl : L.getD j false with
      | false => rfl
      | true =>
        rcases di.sub j hl with h1 | ⟨h1, -⟩
        · rw [hc.new] at h1; cases h1
        · rw [hx] at h1; cases h1
    have huniq : uniqM (clr A j) dm j 0 ops.toList = true → ∀ {L F V a w eb}, DI n0 P ops A m0 eb ⟨env, h, nx, sz, dm, done, sk⟩ L F V a w → L.getD j false = false → ∀ i ∈ Region.ready .any ops L, dm.testBit i = false → (A.testBit i = true → i = j) → i = j := by
      intro hu L F V a w eb di hlj i hi hd hAi
      obtain ⟨hun, oi, hoi, hall⟩ := mem_ready.1 hi
      by_cases e : i = j
      · exact e
      · exfalso
        refine uniqM_spec hu i oi (by simpa using hoi) (by omega) (by simpa using hd) ?_ fun k hk => ?_
        · rw [Nat.zero_add]
          cases hx : (clr A j).testBit i with
          | false => rfl
          | true => exact absurd (hAi (clr_bit.1 hx).1) e
        · obtain ⟨e, he, hb, rfl⟩ := (afterM_spec k oi.after.toList).1 hk
          have hl := hall e (by simpa using he) hb
          rcases di.sub _ hl with h1 | ⟨h1, -⟩
          · exact .inl h1
          · exact .inr (clr_bit.2 ⟨h1, fun e => by rw [e, hlj] at hl; cases hl⟩)
    have hready : ∀ {L F V a w eb}, DI n0 P ops A m0 eb ⟨env, h, nx, sz, dm, done, sk⟩ L F V a w → L.getD j false = false → Region.ready .any ops L ≠ [] := by
      intro L F V a w eb di hlj hr
      have hall := all_run hst di (by rw [hr]; simp)
      have hlt : j < ops.size := (Array.getElem?_eq_some_iff.1 ho).1
      have : j ∈ Region.ready .any ops L := by
        rw [mem_ready]
        refine ⟨?_, o, ho, fun e he hb => hall _ (hc.aft _ ((afterM_spec _ _).2 ⟨e, by simpa using he, hb, rfl⟩))⟩
        have h2 : j < L.size := by rw [di.lsize]; exact hlt
        simp only [Array.getD_eq_getD_getElem?, Array.getElem?_eq_getElem h2, Option.getD_some] at hlj ⊢
        exact hlj
      rw [hr] at this; cases this
    cases hg : gD ops.toList o env sk with
    | bad => rw [hg] at hh; exact hh.elim
    | skip =>
      rw [hg] at hh
      simp only at hh
      have hnA : A.testBit j = false := by
        cases hx : A.testBit j with
        | false => rfl
        | true =>
          obtain ⟨o', ho', hgd, -⟩ := hA j hx
          rw [ho] at ho'; cases ho'
          simp only [gD, hgd] at hg
          cases hg
      cases hsb : strictB ops.toList o done with
      | false => rw [hsb] at hh; exact hh.elim
      | true =>
      rw [hsb] at hh
      simp only [Bool.not_true, cond_false] at hh
      have hstr : ∀ d, o.dst = some d → freshFor ops.toList d done = true := fun d hd => by simp only [strictB, hd] at hsb; exact hsb
      cases hd : o.dst with
      | none =>
        rw [hd] at hh
        obtain ⟨v', q1, q2, q3⟩ := putD_sound hh
        have hst' : DSt ops (addD ⟨env, h, nx, sz, dm, done, sk⟩ j (befM (afterM o.after.toList) done) false none v') := hst.add (f := false) ho hc rfl rfl
        refine drun_sound hA hst' (di.add hA hst (f := false) (v := v') ho hc (by rw [hd]; rfl) rfl rfl rfl rfl rfl (fun t _ => Iff.rfl) hstr ?_ hnA) q3 hr hf
        exact ⟨fun d h => (by rw [hd] at h; cases h), .inl ⟨hg, fun d h => (by rw [hd] at h; cases h)⟩⟩
      | some d =>
        rw [hd] at hh
        obtain ⟨v', q1, q2, q3⟩ := putD_sound hh
        obtain rfl := q2 rfl
        have hst' : DSt ops (addD ⟨env, h, nx, sz, dm, done, d :: sk⟩ j (befM (afterM o.after.toList) done) false (some d) .top) := hst.add (f := false) ho hc rfl rfl
        obtain ⟨z1, z2, z3, z4⟩ := hc.dst d hd
        have hsk : ∀ t, o.dst ≠ some t → (t ∈ d :: sk ↔ t ∈ sk) := fun t ht => by
          have : t ≠ d := fun e => ht (by rw [hd, e])
          simp [this]
        refine drun_sound hA hst' (di.add hA hst (f := false) (v := .top) ho hc (by rw [hd]; rfl) rfl rfl rfl rfl rfl hsk hstr ?_ hnA) q3 hr hf
        refine ⟨fun d' h => (by rw [hd] at h; cases h; exact z1), .inl ⟨?_, fun d' h => ?_⟩⟩
        · rw [← hg]
          refine gD_congr fun t ht => ?_
          have hne : o.dst ≠ some t := fun e => by rw [hd] at e; cases e; exact z3 (List.mem_append_left _ ht)
          have hne' : (some d : Option Nat) ≠ some t := by rw [← hd]; exact hne
          refine ⟨look_addE _ _ _ _ hne', ?_⟩
          rw [Bool.eq_iff_iff, memN_iff, memN_iff]
          exact hsk t hne
        · rw [hd] at h; cases h
          exact ⟨look_addE_same _ _ _, List.mem_cons_self⟩
    | run c =>
      rw [hg] at hh
      simp only at hh
      have float_step : holds P Q K (frD (fvalD P o.op (evO env) h) fun v => putD ops.toList j (befM (afterM o.after.toList) done) (isLoad o.op) o.dst v ⟨env, h, nx, sz, dm, done, sk⟩ fun s => drun P ops.toList A π s k) → strictB ops.toList o done = true → A.testBit j = false → wpAnyIn (wideR fr) n P .any ops QQ fuel L a w := fun hh hsb hjA => by
        have hstr : ∀ d, o.dst = some d → freshFor ops.toList d done = true := fun d hd => by simp only [strictB, hd] at hsb; exact hsb
        obtain ⟨v, hv, hh⟩ := frD_sound hh
        obtain ⟨v', q1, q2, q3⟩ := putD_sound hh
        have hst' : DSt ops (addD ⟨env, h, nx, sz, dm, done, sk⟩ j (befM (afterM o.after.toList) done) (isLoad o.op) o.dst v') := hst.add (f := isLoad o.op) ho hc rfl rfl
        refine drun_sound hA hst' (di.add hA hst (f := isLoad o.op) (v := v') ho hc rfl rfl rfl rfl rfl rfl (fun t _ => Iff.rfl) hstr ?_ hjA) q3 hr hf
        have hlook : ∀ t ∈ lk ops.toList o, look (addE env o.dst v') t = look env t := fun t ht => look_addE _ _ _ _ fun hd => (hc.dst t hd).2.2.1 ht
        refine ⟨fun d hd => (hc.dst d hd).1, .inr ⟨?_, fun h => h, fun d hd => (hc.dst d hd).2.2.2, v, ?_, fun d hd F V x hx => ?_⟩⟩
        · have : c = [] := by
            unfold gD at hg
            split at hg
            · simp only [G.run.injEq] at hg; exact hg.symm
            · split at hg
              · cases hg
              · split at hg
                · cases hg
                · split at hg
                  · rename_i b _
                    cases hb : beqB b _ with
                    | false => rw [hb] at hg; cases hg
                    | true => rw [hb] at hg; simp only [cond_true, G.run.injEq] at hg; exact hg.symm
                  · rename_i sj _ _ _
                    cases hb : memN sj sk <;> rw [hb] at hg <;> cases hg
                  · cases hg
          rw [← this, ← hg]
          exact gD_congr fun t ht => ⟨hlook t (List.mem_append_left _ ht), rfl⟩
        · have : fvalD P o.op (evO (addE env o.dst v')) h = fvalD P o.op (evO env) h := fvalD_congr fun x hx => by
            cases x with
            | tmp t => exact hlook t (List.mem_append_right _ (tmpsL_mem t _ (by simpa using hx)))
            | _ => rfl
          simp only [addD]
          rw [this]
          exact hv
        · simp only [addD]
          rw [hd, look_addE_same]
          exact q1 F V x hx
      cases heff : isEff o.op with
      | false =>
        rw [heff] at hh
        simp only [cond_false] at hh
        cases hsb : strictB ops.toList o done with
        | false =>
          rw [hsb] at hh
          simp only [cond_false] at hh
          cases hu : uniqM (clr A j) dm j 0 ops.toList with
          | false => rw [hu] at hh; exact hh.elim
          | true =>
          rw [hu] at hh
          simp only [cond_true] at hh
          refine drain hA hst hc.new ?_ ?_ fuel L F V a w eb di (hnl (hnotA heff)) hr hf
          · intro fuel L F V a w eb di hlj hr hf i hi hd hAi
            obtain rfl := huniq hu di hlj i hi hd hAi
            obtain ⟨h1, h2⟩ := ready_lt di hi
            refine exec_float hA hst di ho hi hc hg hh fun s' F' V' a' w' k0 k1 k2 k3 k4 => ?_
            exact drun_sound hA k1 k2 k4 (hr.take h1 h2 di.lsize) (by rw [k0]; exact hf.step k3)
          · intro L F V a w eb di hlj hf hr
            exact absurd hr (hready di hlj)
        | true =>
        rw [hsb] at hh
        simp only [cond_true] at hh
        exact float_step hh hsb (hnotA heff)
      | true =>
        rw [heff] at hh
        simp only [cond_true] at hh
        cases hu : uniqM (clr A j) dm j 0 ops.toList with
        | false =>
          rw [hu] at hh
          simp only [cond_false] at hh
          cases hmk : (isMake o.op && strictB ops.toList o done) with
          | false => rw [hmk] at hh; exact hh.elim
          | true =>
          rw [hmk] at hh
          simp only [cond_true] at hh
          obtain ⟨hmk, hsb⟩ := Bool.and_eq_true _ _ ▸ hmk
          have hjA : A.testBit j = false := by
            cases hx : A.testBit j with
            | false => rfl
            | true =>
              obtain ⟨o', ho', -, O, d, hop, -⟩ := hA j hx
              rw [ho] at ho'; cases ho'
              rw [(newO_op hop).2.1] at hmk; cases hmk
          have hld : isLoad o.op = false := by cases ho : o.op <;> rw [ho] at hmk <;> first | rfl | cases hmk
          rw [show (false : Bool) = isLoad o.op from hld.symm] at hh
          exact float_step hh hsb hjA
        | true =>
        rw [hu] at hh
        simp only [cond_true] at hh
        cases hlj : L.getD j false with
        | false =>
          refine drain hA hst hc.new ?_ ?_ fuel L F V a w eb di hlj hr hf
          · intro fuel L F V a w eb di hlj hr hf i hi hd hAi
            obtain rfl := huniq hu di hlj i hi hd hAi
            obtain ⟨h1, h2⟩ := ready_lt di hi
            refine exec_effect hA hst di ho hi hc hg hh fun s' F' V' a' w' k0 k1 k2 k3 k4 => ?_
            exact drun_sound hA k1 k2 k4 (hr.take h1 h2 di.lsize) (by rw [k0]; exact hf.step k3)
          · intro L F V a w eb di hlj hf hr
            exact absurd hr (hready di hlj)
        | true =>
          obtain ⟨O, d, V', hop, hdst, hgd, hlo, hV, hpl, hO, hdi⟩ := di.ghost hA hst ho hc hlj
          rw [newO_eff hop] at hh
          obtain ⟨hp, hkeep⟩ := keepD_sound hh
          obtain ⟨v', q1, q2, q3⟩ := putD_sound hp
          exact drun_sound hA (hst.add (f := false) ho hc rfl rfl) (hdi v' q1 hkeep) q3 hr (hf.name hlo hV hO)

end
end Go.Sym

namespace Go.Sym

section
variable {n0 n : Nat} {P : Program} {Q : AExit → St → Prop} {K : AV → Heap → Nat → Prop} {F : Fix} {V : View} {h : Heap} {w : World}

theorem RoundOf.mono {V V' : View} {fr : Option Nat} (hV : V.le V') : ∀ {ro : Option Nat}, RoundOf V ro fr → RoundOf V' ro fr
  | none, h => h
  | some _, ⟨b, h1, h2⟩ => ⟨b, hV.obj _ _ h1, h2⟩

theorem cell_putObj {b : Nat} {o : Obj} {b' off : Nat} (h : b' ≠ b) : (w.putObj b o).cell? ⟨b', off, none⟩ = w.cell? ⟨b', off, none⟩ := by
  simp only [World.cell?, World.putObj_heap_other h]

theorem Inv.putObj (i : Inv F V h w) {b : Nat} {o : Obj} (hno : ¬ Own V h b) (hf : ∀ off, F b off = none) : Inv F V h (w.putObj b o) where
  fixed := fun b' off x hx => by
    have hne : b' ≠ b := fun e => by subst e; rw [hf] at hx; cases hx
    rw [cell_putObj hne]; exact i.fixed b' off x hx
  objs := fun id ob hg => (i.objs id ob hg).keep fun b' hb' => World.putObj_heap_other fun e => hno ⟨id, ob, hg, by rw [← e]; exact hb'⟩
  nofix := i.nofix
  inj := i.inj

/-- No cell of a block that is no row of cells is fixed. -/
theorem Inv.fnone (i : Inv F V h w) {b : Nat} (hb : ∀ vs e z, w.heap[b]? ≠ some (.cells vs e z)) (off : Nat) : F b off = none := by
  cases hx : F b off with
  | none => rfl
  | some x =>
    have := i.fixed b off x hx
    unfold World.cell? at this
    split at this
    · rename_i c e z hc
      exact absurd hc (hb c e z)
    · cases this

/-- A loop's record turned. -/
theorem Inv.setLoop (i : Inv F V h w) {l b : Nat} {en : List (Nat × AV)} {kk : Nat} {ps : List Nat} {as bo : Code} {st st' : LSt} {r r' : Loop} (hg : get h l = some (.loop en kk ps as bo st)) (hv : V.obj l = some b) (hb : w.heap[b]? = some (.loop r))
    (e1 : r'.params = r.params) (e2 : r'.assign = r.assign) (e3 : r'.body = r.body) (e4 : r'.tmps = r.tmps) (hst : lstOk st' r') :
    Inv F V (upd h l (.loop en kk ps as bo st')) (w.putObj b (.loop r')) ∧ Step F V h w F V (upd h l (.loop en kk ps as bo st')) (w.putObj b (.loop r')) := by
  have hfb : ∀ off, F b off = none := i.fnone fun vs e z => by rw [hb]; simp
  have hget : ∀ id o, get (upd h l (.loop en kk ps as bo st')) id = some o → (id = l ∧ o = .loop en kk ps as bo st') ∨ (id ≠ l ∧ get h id = some o) := by
    intro id o hg'
    rw [get_upd] at hg'
    split at hg'
    · rw [hg] at hg'; simp at hg'; exact .inl ⟨by assumption, hg'.symm⟩
    · exact .inr ⟨by assumption, hg'⟩
  have hlt : b < w.heap.size := lt_of_get hb
  have hne : ∀ id o, id ≠ l → get h id = some o → ∀ b', own V id o = some b' → b' ≠ b := fun id o hne hg' b' hb' e => by
    subst e; exact hne (i.inj id l o _ b' hg' hg hb' hv)
  obtain ⟨b2, r2, hv2, hb2, q1, q2, q3, q4, q5, q6⟩ := i.objs l _ hg
  rw [hv] at hv2; cases hv2
  rw [hb] at hb2; cases hb2
  refine ⟨⟨?_, ?_, ?_, ?_⟩, ⟨.refl F, .refl V, ?_, fun _ _ _ k => .inl k, by simp, ?_, rfl, rfl, rfl, Nat.le_refl _⟩⟩
  · intro b' off x hx
    have hne : b' ≠ b := fun e => by subst e; rw [hfb] at hx; cases hx
    rw [cell_putObj hne]; exact i.fixed b' off x hx
  · intro id o hg'
    rcases hget id o hg' with ⟨rfl, rfl⟩ | ⟨hn, hg'⟩
    · exact ⟨b, r', hv, World.putObj_heap_same hlt, e1.trans q1, e2.trans q2, e3.trans q3, by rw [e4]; exact q4, by rw [e4]; exact q5, hst⟩
    · exact (i.objs id o hg').keep fun b' hb' => World.putObj_heap_other (hne id o hn hg' b' hb')
  · intro id o b' off hg' hob hfr
    rcases hget id o hg' with ⟨rfl, rfl⟩ | ⟨hn, hg'⟩
    · simp only [own] at hob; rw [hv] at hob; cases hob; exact hfb off
    · exact i.nofix id o b' off hg' hob hfr
  · intro id1 id2 o1 o2 b' hg1 hg2 hb1 hb2
    rcases hget id1 o1 hg1 with ⟨rfl, rfl⟩ | ⟨hne1, hga1⟩ <;> rcases hget id2 o2 hg2 with ⟨rfl, rfl⟩ | ⟨hne2, hga2⟩
    · rfl
    · exact i.inj _ _ _ _ b' hg hga2 hb1 hb2
    · exact i.inj _ _ _ _ b' hga1 hg hb1 hb2
    · exact i.inj _ _ _ _ b' hga1 hga2 hb1 hb2
  · rintro b' ⟨id, o, hg', hb'⟩
    rcases hget id o hg' with ⟨rfl, rfl⟩ | ⟨hn, hg'⟩
    · exact .inl ⟨id, _, hg, hb'⟩
    · exact .inl ⟨id, o, hg', hb'⟩
  · intro b' _ hn
    exact World.putObj_heap_other fun e => hn (by subst e; exact ⟨l, _, hg, hv⟩)

/-- A loop is over: its record is taken off. -/
theorem Inv.endLoop (i : Inv F V h w) {l b : Nat} {ob : AObj} {o : Obj} (hg : get h l = some ob) (hv : own V l ob = some b) (hf : ∀ off, F b off = none) :
    Inv F V (del h l) (w.putObj b o) ∧ Step F V h w F V (del h l) (w.putObj b o) := by
  have hne : ∀ id ob', get (del h l) id = some ob' → ∀ b', own V id ob' = some b' → b' ≠ b := fun id ob' hg' b' hb' e => by
    obtain ⟨h1, h2⟩ := get_del l h id ob' hg'
    subst e; exact h1 (i.inj id l ob' ob b' h2 hg hb' hv)
  have i2 : Inv F V (del h l) w := ⟨i.fixed, fun id o hg => i.objs id o (get_del l h id o hg).2, fun id o b off hg => i.nofix id o b off (get_del l h id o hg).2, fun id id' o o' b h1 h2 => i.inj id id' o o' b (get_del l h id o h1).2 (get_del l h id' o' h2).2⟩
  refine ⟨i2.putObj (fun ⟨id, ob', hg', hb'⟩ => hne id ob' hg' b hb' rfl) hf, ⟨.refl F, .refl V, ?_, fun _ _ _ k => .inl k, by simp, ?_, rfl, rfl, rfl, Nat.le_refl _⟩⟩
  · rintro b' ⟨id, o, hg', hb'⟩
    exact .inl ⟨id, o, (get_del l h id o hg').2, hb'⟩
  · intro b' _ hn
    exact World.putObj_heap_other fun e => hn (by subst e; exact ⟨l, _, hg, hv⟩)

end
end Go.Sym

namespace Go.Sym

section
variable {n0 : Nat} {P : Program} {Q : AExit → St → Prop} {K : AV → Heap → Nat → Prop}

theorem Inv.drawn {F : Fix} {V : View} {h : Heap} {w : World} (i : Inv F V h w) (n : Nat) : Inv F V h { w with drawn := n } :=
  ⟨i.fixed, fun id o hg => by
    have := i.objs id o hg
    cases o <;> exact this, i.nofix, i.inj⟩

theorem Step.dr {F : Fix} {V : View} {h : Heap} (w : World) {n : Nat} (hn : w.drawn ≤ n) : Step F V h w F V h { w with drawn := n } :=
  ⟨.refl F, .refl V, fun _ k => .inl k, fun _ _ _ k => .inl k, Nat.le_refl _, fun _ _ _ => rfl, rfl, rfl, rfl, hn⟩

theorem Marks.lt {V : View} {h : Heap} {w : World} {r : Nat} : ∀ {ds : List Deferred}, Marks n0 V h w ds → ({ target := .collected r, args := #[] } : Deferred) ∈ ds → r < w.heap.size
  | d :: ds, ⟨⟨r', e, _, hr, _, _⟩, k⟩, hm => by
    rcases List.mem_cons.1 hm with hm | hm
    · rw [e] at hm
      simp only [Deferred.mk.injEq, Target.collected.injEq, and_true] at hm
      subst hm
      exact lt_of_get hr
    · exact Marks.lt k hm

theorem Step.undraw {F F' : Fix} {V V' : View} {h h' : Heap} {w w' : World} {n : Nat} (hn : w.drawn ≤ n) (s : Step F V h { w with drawn := n } F' V' h' w') : Step F V h w F' V' h' w' :=
  ⟨s.fix, s.view, s.own, s.newfix, s.size, s.touch, s.os, s.tape, s.output, Nat.le_trans hn s.drawn⟩

theorem drawn_sound {n : Nat} {fr : Option Nat} {QQ : Exit → Act → World → Prop} {ops : Array Oper} {s : St} {k : St → R} {F : Fix} {V : View} {a : Act} {w : World} {id : Nat} (r : Rep n0 F V s a w) (hh : holds P Q K (drawn P ops.toList s k))
    (hf : Fin n0 P Q K k QQ F V s.h s.sz w) : (Code.region id ops true).wpIn (wideR fr) n P QQ a w := by
  obtain ⟨env, h, nx, sz⟩ := s
  unfold drawn at hh
  simp only at hh
  cases hm : P.follows .mixedOrders with
  | false => rw [hm] at hh; exact hh.elim
  | true =>
  rw [hm] at hh
  simp only [cond_true] at hh
  rw [withA_eq] at hh
  have hA : LateA P ops (maskL (lateL P ops.toList 0 ops.toList)) := fun k hk => by
    obtain ⟨o, -, h2, h3⟩ := lateL_mem (maskL_bit.1 hk)
    exact ⟨o, by simpa using h2, lateOf_late h3⟩
  refine wpIn_region_any hm ?_
  have nol : ∀ i, (Array.replicate ops.size false).getD i false = false := by
    intro i
    simp only [Array.getD_eq_getD_getElem?, Array.getElem?_replicate]
    split <;> rfl
  have hst : DSt ops ⟨env, h, nx, sz, 0, [], []⟩ := by
    refine ⟨fun i hi => (by simp at hi), fun i => (by simp), fun i o hi => (by simp at hi), fun i b f o hm => (by simp at hm), fun L hL i hi => (by simp at hi)⟩
  have di : DI n0 P ops (maskL (lateL P ops.toList 0 ops.toList)) w.heap.size (fun _ => 0) ⟨env, h, nx, sz, 0, [], []⟩ (Array.replicate ops.size false) F V a { w with drawn := w.drawn + 1 } := by
    refine ⟨r.defers.step (Step.dr (F := F) w (Nat.le_succ _)), r.size, r.inv.drawn _, r.fresh, by simp, fun i hi => ?_, fun i k hi => ?_, fun j o hj => ?_, fun t ht _ => ⟨r.env t, fun h => (by simp at h)⟩, fun i b f o hm => (by simp at hm), fun i o hi => (by simp at hi)⟩
    · rw [nol] at hi; cases hi
    · rw [nol] at hi; cases hi
    · simp only [nol] at hj; cases hj
  refine drun_sound hA hst di hh ⟨List.range ops.size, by simp, fun i hi _ => by simpa using hi⟩ ⟨F, V, h, { w with drawn := w.drawn + 1 }, rfl, .refl .., ?_⟩
  intro s' F' V' a' w' h0 h1 h2 h3
  exact hf s' F' V' a' w' h0 h1 h2 (h3.undraw (Nat.le_succ _))

section scope
variable {F : Fence} {n : Nat} {P : Program} {b : Frame} {a : Act} {k : List Item} {cs : List Frame} {w : World} {Q : Exit → Act → World → Prop}

theorem stepR_scope {c : Code} : step P (lone (b.atR a (.code (.scope c) :: k)) cs w) = .next (lone (b.atR a (.code c :: .inScope c :: k)) cs w) :=
  step_lone_go (by simp [stepG, stepG.exec, Frame.atR])
theorem stepR_inScope {c : Code} : step P (lone (b.atR a (.inScope c :: k)) cs w) = .next (lone (b.atR a k) cs w) :=
  step_lone_go (by simp [stepG, stepG.exec, Frame.atR])

/-- A scope that no jump of its own leaves. -/
theorem wpIn_scope {c : Code} (h : c.wpIn F n P Q a w) (hg : ∀ l a w, ¬ Q (.goto l) a w) : (Code.scope c).wpIn F n P Q a w := by
  intro b k cs hro hb hr
  have h0 : (lone (b.atR a (.code (.scope c) :: k)) cs w).fenced P F := fenced_calm hb hr rfl
  obtain ⟨e, a₁, w₁, hq, harr⟩ := h b (.inScope c :: k) cs hro hb hr
  cases e with
  | normal => exact ⟨.normal, a₁, w₁, hq, .head h0 stepR_scope (StepsIn.trans harr (.one (fenced_calm hb hr rfl) stepR_inScope))⟩
  | exit id =>
    have hx : exitTo id (.inScope c :: k) = exitTo id k := by simp [exitTo]
    exact ⟨.exit id, a₁, w₁, hq, fun k' hk => .head h0 stepR_scope (harr.1 k' (by rw [hx]; exact hk)),
      fun hr' hk => let ⟨k₁, h1, h2⟩ := harr.2 hr' (by rw [hx]; exact hk); ⟨k₁, h1, .head h0 stepR_scope h2⟩⟩
  | goto l => exact absurd hq (hg l _ _)
  | ret => exact ⟨.ret, a₁, w₁, hq, .of_steps (.one h0 stepR_scope) harr⟩
  | panic ch => exact ⟨_, a₁, w₁, hq, .of_steps (.one h0 stepR_scope) harr⟩
  | outgrown => exact ⟨_, a₁, w₁, hq, .of_steps (.one h0 stepR_scope) harr⟩
end scope

theorem exec_sound {n : Nat} {fr : Option Nat} : ∀ {c : Code} {s : St} {k : AExit → St → R} {F : Fix} {V : View} {a : Act} {w : World}, RoundOf V s.sz.ro fr → n0 ≤ w.heap.size → Rep n0 F V s a w → holds P Q K (exec P c s k) → c.wpIn (wideR fr) n P (CodePost n0 P Q K k F V s.h s.sz w) a w
  | .skip, s, k, F, V, a, w, hro, hn0, r, hh => wpIn_skip ⟨.normal, s, F, V, rfl, rfl, .refl .., r, hh⟩
  | .label l, s, k, F, V, a, w, hro, hn0, r, hh => wpIn_label ⟨.normal, s, F, V, rfl, rfl, .refl .., r, hh⟩
  | .exit id, s, k, F, V, a, w, hro, hn0, r, hh => wpIn_exit ⟨.exit id, s, F, V, rfl, rfl, .refl .., r, hh⟩
  | .ret, s, k, F, V, a, w, hro, hn0, r, hh => wpIn_ret ⟨.ret, s, F, V, rfl, rfl, .refl .., r, hh⟩
  | .region id ops true, s, k, F, V, a, w, hro, hn0, r, hh => by
    refine drawn_sound r (k := fun s => k .normal s) hh ?_
    intro s' F' V' a' w' h0 h1 h2 h3
    exact ⟨.normal, s', F', V', rfl, h0, h3, h2, h1⟩
  | .region id ops false, s, k, F, V, a, w, hro, hn0, r, hh => by
    obtain ⟨env, h, nx, sz⟩ := s
    refine wpIn_region ?_
    rw [List.range_eq_range']
    have := runOps_sound (n := n) (fr := fr) (QQ := CodePost n0 P Q K k F V h sz w) (ops := ops) (todo := ops.toList) (i := 0) (fun j => by simp) hh r.toR ?_
    · simpa using this
    · intro rs' F' V' a' w' h0 h1 h2 h3
      obtain ⟨s', q1, q2, q3, q4⟩ := endR_sound h2 h1
      exact ⟨.normal, s', F', V', rfl, q4.trans h0, by rw [q3]; exact h3, q2, q1⟩
  | .seq x y, s, k, F, V, a, w, hro, hn0, r, hh => by
    refine wpIn_seq (wpIn_mono (exec_sound hro hn0 r hh) ?_)
    rintro e a' w' ⟨ae, s', F', V', rfl, hz, hs, hr, hk⟩
    cases ae with
    | normal =>
      refine wpIn_mono (exec_sound (by rw [hz]; exact hro.mono hs.view) (Nat.le_trans hn0 hs.size) hr hk) ?_
      rintro e2 a2 w2 ⟨ae2, s2, F2, V2, rfl, hz2, hs2, hr2, hk2⟩
      exact ⟨ae2, s2, F2, V2, rfl, hz2.trans hz, hs.trans hs2, hr2, hk2⟩
    | exit i => exact ⟨.exit i, s', F', V', rfl, hz, hs, hr, hk⟩
    | ret => exact ⟨.ret, s', F', V', rfl, hz, hs, hr, hk⟩
  | .cond c t e, s, k, F, V, a, w, hro, hn0, r, hh => by
    have hc := evO_sound r c
    unfold exec at hh
    cases hx : evO s.env c <;> rw [hx] at hh hc <;> try exact hh.elim
    case bool b =>
      simp only [rep] at hc
      cases b with
      | true => exact wpIn_cond_true hc (exec_sound hro hn0 r (hh.1 rfl))
      | false => exact wpIn_cond_false hc (exec_sound hro hn0 r (hh.2 rfl))
    case bl b =>
      simp only [rep] at hc
      cases b with
      | true => exact wpIn_cond_true hc (exec_sound hro hn0 r hh)
      | false => exact wpIn_cond_false hc (exec_sound hro hn0 r hh)
  | .block id body, s, k, F, V, a, w, hro, hn0, r, hh => by
    refine wpIn_block (wpIn_mono (exec_sound hro hn0 r hh) ?_)
    rintro e a' w' ⟨ae, s', F', V', rfl, hz, hs, hr, hk⟩
    cases ae with
    | normal => exact ⟨.normal, s', F', V', rfl, hz, hs, hr, hk⟩
    | ret => exact ⟨.ret, s', F', V', rfl, hz, hs, hr, hk⟩
    | exit i =>
      simp only [AExit.exit', Exit.inBlock]
      simp only [blockK] at hk
      cases hb : Nat.beq i id with
      | true =>
        rw [hb] at hk
        obtain rfl := Nat.eq_of_beq_eq_true hb
        simp only [if_true]
        exact ⟨.normal, s', F', V', rfl, hz, hs, hr, hk⟩
      | false =>
        rw [hb] at hk
        have : i ≠ id := fun h => by subst h; simp at hb
        simp only [if_neg this]
        exact ⟨.exit i, s', F', V', rfl, hz, hs, hr, hk⟩
  | .loop body, s, k, F, V, a, w, hro, hn0, r, hh => by
    refine wpIn_mono (hh n0 n fr F V a w hro hn0 r) fun e a' w' h => ?_
    obtain ⟨ae, s', F', V', h1, h2, h3, h4, h5⟩ := h
    exact ⟨ae, s', F', V', h1, h2, h3, h4, h5⟩
  | .goto _, _, _, _, _, _, _, _, _, _, hh => hh.elim
  | .scope c, s, k, F, V, a, w, hro, hn0, r, hh => wpIn_scope (exec_sound hro hn0 r hh) fun l a w ⟨ae, _, _, _, e, _⟩ => by cases ae <;> cases e
  | .rangeFunc g ps assign body, s, k, F, V, a, w, hro, hn0, r, hh => by
    obtain ⟨env, h, nx, sz⟩ := s
    have hg := evO_sound r g
    unfold exec at hh
    simp only at hh hg
    cases hin : inLoop h sz.ro with
    | false => rw [hin] at hh; exact hh.elim
    | true =>
    rw [hin] at hh
    simp only [Bool.not_true, cond_false] at hh
    cases hx : evO env g <;> rw [hx] at hh hg <;> try exact hh.elim
    rename_i f caps
    simp only [rep] at hg
    obtain ⟨cv, hgv, hcaps⟩ := hg
    obtain ⟨hcall, hc⟩ := hh
    simp only at hro
    have rinv := r.inv
    have rfresh := r.fresh
    simp only at rinv rfresh
    -- the record is laid
    have enter : ∀ fn, ∃ (l : Nat) (mark : List Deferred) (w₁ : World) (r0 : Loop), (Instr.enterLoop fn a.tmps ps assign body fr).run P w = .ok (l, mark) w₁ ∧ w₁.heap[l]? = some (.loop r0) ∧ r0.state = .ready ∧ r0.pending = none ∧ r0.tmps = a.tmps ∧ r0.params = ps ∧ r0.assign = assign ∧ r0.body = body ∧
        Inv F (V.addObj nx l) ((nx, .loop env sz.k ps.toList assign body .ready) :: h) w₁ ∧ Step F V h w F (V.addObj nx l) ((nx, .loop env sz.k ps.toList assign body .ready) :: h) w₁ ∧ Go.Sym.fresh (V.addObj nx l) (nx + 1) ∧
        Marks n0 (V.addObj nx l) ((nx, .loop env sz.k ps.toList assign body .ready) :: h) w₁ (mark ++ a.defers) := by
      intro fn
      have hnx := rfresh nx (Nat.le_refl _)
      cases hr0 : sz.ro with
      | none =>
        rw [hr0] at hro
        simp only [RoundOf] at hro
        subst hro
        have i1 : Inv F V h (w.alloc (.deferred (some []))) := rinv.allocAny _
        have s1 : Step F V h w F V h (w.alloc (.deferred (some []))) := Step.alloc0 _
        have hsz1 : (w.alloc (.deferred (some []))).heap.size = w.heap.size + 1 := by simp
        obtain ⟨i2, s2, f2⟩ := i1.newObj (nx := nx) rfresh (ob := .loop env sz.k ps.toList assign body .ready) (o := .loop { state := .ready, pending := none, fn, tmps := a.tmps, params := ps, assign, body, defers := w.heap.size }) (by simp [own, View.addObj])
          ⟨_, _, by simp [View.addObj], heap_new _ _, by simp, rfl, rfl, r.size, fun t => (r.env t).mono (.refl F) (View.le_addObj hnx.1), rfl, rfl⟩
        rw [hsz1] at i2 s2 f2
        refine ⟨w.heap.size + 1, _, _, _, run_enterLoop_outer fn a.tmps ps assign body, by rw [← hsz1]; exact heap_new _ _, rfl, rfl, rfl, rfl, rfl, rfl, i2, s1.trans s2, f2, ?_⟩
        refine ⟨⟨w.heap.size, rfl, hn0, ?_, ?_, ?_⟩, r.defers.step (s1.trans s2)⟩
        · rw [heap_old _ _ (by rw [hsz1]; omega)]; exact heap_new _ _
        · rintro ⟨id, o, hg, ho⟩
          rw [get_cons] at hg
          split at hg
          · cases hg
            simp only [own, View.addObj] at ho
            rename_i hid
            subst hid
            simp at ho
          · have : own V id o = some w.heap.size := by
              rename_i hid
              cases o <;> simpa [own, View.addObj, hid] using ho
            exact absurd (rinv.own_lt ⟨id, o, hg, this⟩) (Nat.lt_irrefl _)
        · intro d' hd' e
          subst e
          have := Marks.lt r.defers hd'
          exact absurd this (Nat.lt_irrefl _)
      | some l0 =>
        rw [hr0] at hro hin
        obtain ⟨b0, hv0, rfl⟩ := hro
        unfold inLoop at hin
        simp only at hin
        split at hin
        · rename_i en0 kk0 ps0 as0 bo0 st0 hget0
          obtain ⟨b0', r00, hv0', hb0, -⟩ := rinv.objs l0 _ hget0
          rw [hv0] at hv0'; cases hv0'
          obtain ⟨i2, s2, f2⟩ := rinv.newObj (nx := nx) rfresh (ob := .loop env sz.k ps.toList assign body .ready) (o := .loop { state := .ready, pending := none, fn, tmps := a.tmps, params := ps, assign, body, defers := r00.defers }) (by simp [own, View.addObj])
            ⟨_, _, by simp [View.addObj], heap_new _ _, by simp, rfl, rfl, r.size, fun t => (r.env t).mono (.refl F) (View.le_addObj hnx.1), rfl, rfl⟩
          exact ⟨w.heap.size, [], _, _, run_enterLoop_inner hb0 fn a.tmps ps assign body, heap_new _ _, rfl, rfl, rfl, rfl, rfl, rfl, i2, s2, f2, r.defers.step s2⟩
        · cases hin
    refine wpIn_rangeFunc fun fn _ => ?_
    obtain ⟨l, mark, w₁, r0, he, hl, q1, q2, q3, q4, q5, q6, i1, s1, f1, m1⟩ := enter fn
    have hV1 : V.le (V.addObj nx l) := s1.view
    have hlv : (V.addObj nx l).obj nx = some l := by simp [View.addObj]
    refine ⟨l, mark, w₁, { target := .fn (.func f) cv.toArray, args := #[.func (.yield l) #[] #[]] }, w₁, f, (#[.func (.yield l) #[] #[]] : Array Value) ++ cv.toArray, w₁, he, ?_, fun _ _ => trivial, hcall _ _, fun h => (by cases h), ?_⟩
    · have hcv : a.eval (.const (.func (.yield l) #[] #[])) = .func (.yield l) #[] #[] := rfl
      simp [Go.resolve, hgv, hcv, Deferred.ofValue]
    · have hc1 := hc F (V.addObj nx l) w₁ (.func (.yield l) #[] #[] :: cv) i1 f1 (by simp only [repL]; exact ⟨_, _, rfl, by simp only [rep]; exact ⟨l, hlv, rfl⟩, hcaps.mono (.refl F) hV1⟩)
      have e1 : (#[.func (.yield l) #[] #[]] : Array Value) ++ cv.toArray = (.func (.yield l) #[] #[] :: cv).toArray := by simp
      rw [e1]
      refine (callsIn_wide (n := n - 1)).2 (hc1.mono ?_)
      rintro e w' ⟨v, F', V', av, h', nx', rfl, hs, hi', hf', -, hk⟩
      simp only [rangeK] at hk
      split at hk
      case h_4 => exact hk.elim
      all_goals
        rename_i en2 kk2 ps2 as2 bo2 hget
        obtain ⟨b, r', hv, hb, -, -, -, -, -, hst⟩ := hi'.objs nx _ hget
        have : V'.obj nx = some l := hs.view.obj _ _ hlv
        rw [hv] at this; cases this
        obtain ⟨hst1, hst2⟩ := hst
        rw [withDel_eq] at hk
        have hfb : ∀ off, F' l off = none := hi'.fnone fun vs e z => by rw [hb]; simp
        obtain ⟨i3, s3⟩ := hi'.endLoop (o := .loop { r' with state := .exhausted }) hget hv hfb
        have st := s1.trans (hs.trans s3)
        have rep3 : Rep n0 F' V' ⟨env, del h' nx, nx', sz⟩ { a with defers := mark ++ a.defers } (w'.putObj l (.loop { r' with state := .exhausted })) :=
          ⟨m1.step (hs.trans s3), r.size, fun t => (r.env t).mono st.fix st.view, i3, hf'⟩
        have hrun := run_endLoop (P := P) hb (by rw [hst1]; simp)
        clear i3 s3
        generalize w'.putObj l (.loop { r' with state := .exhausted }) = w4 at st rep3 hrun
        rw [hst2] at hrun
        refine ⟨_, _, hrun, ?_⟩
      · exact ⟨.normal, ⟨env, del h' nx, nx', sz⟩, F', V', rfl, rfl, st, rep3, hk⟩
      · exact wpIn_ret ⟨.ret, ⟨env, del h' nx, nx', sz⟩, F', V', rfl, rfl, st, rep3, hk⟩
      · exact wpIn_exit ⟨.exit _, ⟨env, del h' nx, nx', sz⟩, F', V', rfl, rfl, st, rep3, hk⟩
  | .refuse _, _, _, _, _, _, _, _, _, _, hh => hh.elim

theorem least {M : Nat → Prop} (h : ∃ n, M n) : ∃ n, M n ∧ ∀ m, M m → n ≤ m := by
  obtain ⟨n, hn⟩ := h
  induction n using Nat.strongRecOn with
  | ind n ih =>
    by_cases hm : ∃ m, m < n ∧ M m
    · obtain ⟨m, h1, h2⟩ := hm
      exact ih m h1 h2
    · exact ⟨n, hn, fun m h => by
        by_cases hlt : m < n
        · exact absurd ⟨m, hlt, h⟩ hm
        · omega⟩

def rvar (tmps : Array Value) (x : ResultVar) : Sem Value :=
  match x with
  | .tmp t => pure (tmps.getD t undef)
  | .cell b t => do loadVar t (← asAddr (tmps.getD b undef))

theorem results_eq (fn : Func) (tmps : Array Value) : results fn tmps = (do
    let vs ← fn.results.mapM (rvar tmps)
    pure (if h : vs.size = 1 then vs[0] else .tuple vs)) := rfl

theorem resFR_sound {s : St} {F : Fix} {V : View} {a : Act} {w : World} {T : AV → Prop} (r : Rep n0 F V s a w) {x : ResultVar} (h : (resFR P s x).sat T) :
    ∃ av v, T av ∧ (rvar a.tmps x).run P w = .ok v w ∧ rep F V av v := by
  cases x with
  | tmp t => exact ⟨_, _, h, rfl, r.env t⟩
  | cell b t =>
    simp only [resFR] at h
    have rb := r.env b
    cases hb : look s.env b <;> rw [hb] at h rb <;> try exact h.elim
    rename_i id off
    simp only [rep] at rb
    obtain ⟨blk, hv, hval⟩ := rb
    simp only at h
    cases hg : get s.h id with
    | none => rw [hg] at h; exact h.elim
    | some ob =>
    rw [hg] at h
    cases ob <;> try exact h.elim
    rename_i l
    simp only at h
    obtain ⟨b', vs, e, hv', hh, hl, ho, hc⟩ := objCells r.inv hg
    rw [hv] at hv'; cases hv'
    obtain ⟨a', x', hT, hr, hx⟩ := part_sound h hl ho
    refine ⟨a', x', hT, ?_, hr⟩
    simp only [rvar, hval, asAddr, Sem.run_bind, Sem.run_pure, Result.andThen_ok]
    exact run_loadVar hc hx

theorem resR_sound {s : St} {F : Fix} {V : View} {a : Act} {w : World} (r : Rep n0 F V s a w) : ∀ {l : List ResultVar} {k : List AV → R}, holds P Q K (resR P s l k) →
    ∃ avs vs, holds P Q K (k avs) ∧ (l.mapM (rvar a.tmps)).run P w = .ok vs w ∧ repL F V avs vs
  | [], k, h => ⟨[], [], h, by simp [List.mapM_nil, Sem.run_pure], by simp [repL]⟩
  | x :: l, k, h => by
    unfold resR at h
    obtain ⟨av, v, h1, h2, h3⟩ := resFR_sound r (holds_frR0 h)
    rw [force_eq] at h1
    obtain ⟨avs, vs, q1, q2, q3⟩ := resR_sound r h1
    refine ⟨av :: avs, v :: vs, q1, ?_, by simp only [repL]; exact ⟨v, vs, rfl, h3, q3⟩⟩
    rw [List.mapM_cons]
    simp only [Sem.run_bind, Sem.run_pure, h2, Result.andThen_ok, q2]

def bindL (i : Nat) : List AV → List (Nat × AV)
  | [] => []
  | v :: r => (i, v) :: bindL (i + 1) r

theorem withBind_eq : ∀ {l : List AV} {i : Nat} {k : List (Nat × AV) → R}, withBind i l k = k (bindL i l)
  | [], i, k => rfl
  | v :: r, i, k => by
    unfold withBind
    rw [withBind_eq]
    rfl

theorem look_bindL : ∀ (l : List AV) (i t : Nat), look (bindL i l) t = if t < i then .top else (l[t - i]?).getD .top
  | [], i, t => by simp [bindL, look]
  | v :: r, i, t => by
    simp only [bindL, look_cons, look_bindL r (i + 1) t]
    by_cases h : t = i
    · subst h; simp
    · by_cases h2 : t < i
      · simp [h, h2, show t < i + 1 by omega]
      · obtain ⟨m, rfl⟩ : ∃ m, t = i + 1 + m := ⟨t - (i + 1), by omega⟩
        have e1 : i + 1 + m - i = m + 1 := by omega
        have e2 : i + 1 + m - (i + 1) = m := by omega
        simp only [h, if_false, show ¬ (i + 1 + m < i) by omega, show ¬ (i + 1 + m < i + 1) by omega, e1, e2, List.getElem?_cons_succ]

/-- A frame leaves: its marks are taken off; then its results are read. -/
theorem leaves_sound {m : Nat} {G : Fence} {fn : Func} {tmps : Array Value} {R : Ending → World → Prop} {F : Fix} {V : View} {h : Heap} {w0 : World} {F0 : Fix} {V0 : View} {h0 : Heap}
    (hR : ∀ w, Inv F V h w → Step F0 V0 h0 w0 F V h w → ∃ v, (results fn tmps).run P w = .ok v w ∧ R (.returned v) w) :
    ∀ {ds : List Deferred} {w : World}, Inv F V h w → Step F0 V0 h0 w0 F V h w → Marks w0.heap.size V h w ds → LeavesInM G m P fn tmps R ds .returning w
  | [], w, i, s, _ => hR w i s
  | d :: ds, w, i, s, ⟨⟨r, e, hn, hr, ho, hd⟩, k⟩ => by
    subst e
    refine ⟨by simp, .inl ⟨r, _, rfl, run_takeDeferred hr, ?_⟩⟩
    have hf : ∀ off, F r off = none := i.fnone fun vs e z => by rw [hr]; simp
    have i2 : Inv F V h (w.putObj r (.deferred none)) := i.putObj ho hf
    have s2 : Step F0 V0 h0 w0 F V h (w.putObj r (.deferred none)) :=
      ⟨s.fix, s.view, s.own, s.newfix, by rw [World.putObj_size]; exact s.size, fun b hb hn' => by rw [World.putObj_heap_other (by omega)]; exact s.touch b hb hn', s.os, s.tape, s.output, s.drawn⟩
    refine leaves_sound hR i2 s2 ?_
    have : ∀ {l : List Deferred}, (∀ d' ∈ l, d' ≠ { target := .collected r, args := #[] }) → Marks w0.heap.size V h w l → Marks w0.heap.size V h (w.putObj r (.deferred none)) l := by
      intro l
      induction l with
      | nil => exact fun _ _ => trivial
      | cons d' l ih =>
        rintro hne ⟨⟨r', e', hn', hr', ho', hd'⟩, k'⟩
        refine ⟨⟨r', e', hn', ?_, ho', hd'⟩, ih (fun x hx => hne x (List.mem_cons_of_mem _ hx)) k'⟩
        rw [World.putObj_heap_other]
        · exact hr'
        · intro e2
          subst e2
          exact hne d' List.mem_cons_self e'
    exact this hd k

/-- A function, by its body. -/
theorem callOK_of_body {f : FuncId} {fn : Func} {sz : Nat} {args : List AV} {h : Heap} {nx : Nat} {KK : AV → Heap → Nat → Prop} (hcall : ∀ (args : Array Value) (w : World), (callFunc f args).run P w = .ok (.enter f args) w)
    (hf : P.funcs[f]? = some fn) (hsz : sz = args.length + (fn.ntmps - args.length)) (hh : holds P (fun _ _ => False) KK (body P fn sz args h nx)) : CallOK P f args h nx KK := by
  refine ⟨hcall, fun F V w vs hi hfr hr => ?_⟩
  unfold body at hh
  cases hb : fn.body with
  | none => rw [hb] at hh; exact hh.elim
  | some c =>
  rw [hb] at hh
  simp only [withBind_eq] at hh
  refine (callsIn_wide (n := 0)).1 (callsIn_of_wp_marks hf hb trivial ?_ rfl)
  have hlen := hr.length
  have rep0 : Rep w.heap.size F V ⟨bindL 0 args, h, nx, ⟨sz, none⟩⟩ { tmps := vs.toArray ++ Array.replicate (fn.ntmps - vs.toArray.size) undef, defers := [] } w := by
    refine ⟨trivial, by simp [hsz, hlen], fun t => ?_, hi, hfr⟩
    rw [look_bindL]
    simp only [Nat.not_lt_zero, if_false, Nat.sub_zero]
    cases ha : args[t]? with
    | none => simp [rep]
    | some x =>
      obtain ⟨v, hv, r⟩ := hr.get t x ha
      have hlt : t < vs.length := (List.getElem?_eq_some_iff.1 hv).1
      have : (vs.toArray ++ Array.replicate (fn.ntmps - vs.toArray.size) undef).getD t undef = v := by
        rw [Array.getD_eq_getD_getElem?, Array.getElem?_append_left (by simpa using hlt)]
        simp [hv]
      rw [this]
      exact r
  refine wpIn_mono (exec_sound (n := 0) (fr := none) (by rfl) (Nat.le_refl _) rep0 hh) ?_
  rintro e a' w' ⟨ae, ⟨env', h', nx', sz'⟩, F', V', rfl, -, hs, hr', hk⟩
  have done : ae ≠ .exit 0 → (∀ i, ae ≠ .exit i) → LeavesInM Fence.wide 0 P fn a'.tmps (fun e w' => ∃ v F' V' a h' nx', e = .returned v ∧ Step F V h w F' V' h' w' ∧ Inv F' V' h' w' ∧ Go.Sym.fresh V' nx' ∧ rep F' V' a v ∧ KK a h' nx') a'.defers .returning w' := by
    intro _ hne
    have hk' : holds P (fun _ _ => False) KK (resR P ⟨env', h', nx', sz'⟩ fn.results.toList fun l => match l with
      | [v] => .ret v h' nx'
      | vs => .ret (.tup vs) h' nx') := by
      cases ae with
      | exit i => exact absurd rfl (hne i)
      | normal => exact hk
      | ret => exact hk
    refine leaves_sound (fun w2 i2 s2 => ?_) hr'.inv hs hr'.defers
    have hr2 : Rep w.heap.size F' V' ⟨env', h', nx', sz'⟩ { tmps := a'.tmps, defers := [] } w2 := ⟨trivial, hr'.size, hr'.env, i2, hr'.fresh⟩
    obtain ⟨avs, vs2, q1, q2, q3⟩ := resR_sound hr2 hk'
    refine ⟨if h : vs2.toArray.size = 1 then vs2.toArray[0] else .tuple vs2.toArray, ?_, ?_⟩
    · rw [results_eq, Sem.run_bind]
      have : (fn.results.mapM (rvar a'.tmps)).run P w2 = .ok vs2.toArray w2 := by
        have e : fn.results.mapM (rvar a'.tmps) = (List.toArray <$> fn.results.toList.mapM (rvar a'.tmps)) := by
          conv => lhs; rw [← Array.toArray_toList (xs := fn.results)]
          rw [List.mapM_toArray]
        rw [e]
        simp only [map_eq_pure_bind, Sem.run_bind, q2, Result.andThen_ok, Sem.run_pure]
      rw [this]
      simp only [Result.andThen_ok, Sem.run_pure]
    · match avs, vs2, q1, q3 with
      | [x], [v], q1, q3 =>
        simp only [repL] at q3
        obtain ⟨v', r', e, h1, h2⟩ := q3
        simp only [List.cons.injEq] at e
        obtain ⟨rfl, _⟩ := e
        exact ⟨_, F', V', _, _, _, rfl, s2, i2, hr'.fresh, by simpa using h1, q1⟩
      | [], vs2, q1, q3 =>
        have : vs2.length = 0 := by simpa using q3.length.symm
        refine ⟨_, F', V', .tup [], h', nx', rfl, s2, i2, hr'.fresh, ?_, q1⟩
        rw [dif_neg (by simp [this])]
        simp only [rep]
        exact ⟨vs2, rfl, q3⟩
      | x :: y :: r, vs2, q1, q3 =>
        have : vs2.length = r.length + 2 := by simpa using q3.length.symm
        refine ⟨_, F', V', .tup (x :: y :: r), h', nx', rfl, s2, i2, hr'.fresh, ?_, q1⟩
        rw [dif_neg (by simp [this])]
        simp only [rep]
        exact ⟨vs2, rfl, q3⟩
      | [x], [], q1, q3 => simp [repL] at q3
      | [x], v :: v' :: r, q1, q3 => have := q3.length; simp at this
  cases ae with
  | exit i => exact hk.elim
  | normal => exact done (by simp) (by simp)
  | ret => exact done (by simp) (by simp)

/-- A round, by its code. -/
theorem round_in {l : Nat} {assign body : Code} {env : List (Nat × AV)} {h : Heap} {nx kk : Nat} {k : Bool → Heap → Nat → R} (hh : holds P Q K (roundR P l assign body ⟨env, h, nx, ⟨kk, some l⟩⟩ k)) :
    holds P Q K (.round l assign body ⟨env, h, nx, ⟨kk, some l⟩⟩ k) := by
  intro n F V fn tmps w b hv hz henv hi hf
  refine roundIn_of_wpIn (F := Fence.wide) trivial ?_
  have rep0 : Rep w.heap.size F V ⟨env, h, nx, ⟨kk, some l⟩⟩ { tmps, defers := [] } w := ⟨trivial, hz, henv, hi, hf⟩
  refine wpIn_mono (exec_sound (n := n) (fr := some b) (by exact ⟨b, hv, rfl⟩) (Nat.le_refl _) rep0 hh) ?_
  rintro e a1 w1 ⟨ae, ⟨env1, h1, nx1, sz1⟩, F1, V1, rfl, hz1, hs1, hr1, hk⟩
  simp only at hz1
  subst hz1
  cases ae with
  | exit i => exact hk.elim
  | ret => exact hk.elim
  | normal =>
  simp only [roundB] at hk
  split at hk
  case h_2 => exact hk.elim
  rename_i en kk1 ps as bo hget
  have i1 := hr1.inv
  simp only at i1 hs1
  obtain ⟨b1, r, hv1, hb1, p1, p2, p3, p4, p5, hst1, hst2⟩ := i1.objs l _ hget
  have hvb : V1.obj l = some b := hs1.view.obj _ _ hv
  rw [hvb] at hv1; cases hv1
  rw [withUpd_eq] at hk
  obtain ⟨i2, s2⟩ := i1.setLoop (r' := { r with state := .busy }) (st' := .busy) hget hvb hb1 rfl rfl rfl rfl ⟨rfl, hst2⟩
  refine ⟨_, run_beginRound hb1 hst1, ?_⟩
  have hr2 : Rep w.heap.size F1 V1 ⟨env1, upd h1 l (.loop en kk1 ps as bo .busy), nx1, ⟨kk, some l⟩⟩ a1 (w1.putObj b (.loop { r with state := .busy })) := ⟨hr1.defers.step s2, hr1.size, hr1.env, i2, hr1.fresh⟩
  refine wpIn_mono (exec_sound (n := n) (fr := some b) (by exact ⟨b, hvb, rfl⟩) (by rw [World.putObj_size]; exact hs1.size) hr2 hk) ?_
  rintro e a3 w3 ⟨ae, ⟨env3, h3, nx3, sz3⟩, F3, V3, rfl, -, hs3, hr3, hk⟩
  simp only [roundE] at hk
  split at hk
  case h_2 => exact hk.elim
  rename_i en3 kk3 ps3 as3 bo3 hget3
  have i3 := hr3.inv
  simp only at i3 hs3
  obtain ⟨b3, r3, hv3, hb3, -, -, -, -, -, hst31, hst32⟩ := i3.objs l _ hget3
  have hvb3 : V3.obj l = some b := hs3.view.obj _ _ hvb
  rw [hvb3] at hv3; cases hv3
  cases ae with
  | normal =>
    simp only [withUpd_eq] at hk
    obtain ⟨i4, s4⟩ := i3.setLoop (r' := { r3 with state := .ready, pending := none }) (st' := .ready) hget3 hvb3 hb3 rfl rfl rfl rfl ⟨rfl, rfl⟩
    exact ⟨_, _, run_endRound none hb3, true, _, _, F3, V3, rfl, hs1.trans (s2.trans (hs3.trans s4)), i4, hr3.fresh, hk⟩
  | ret =>
    simp only [withUpd_eq] at hk
    obtain ⟨i4, s4⟩ := i3.setLoop (r' := { r3 with state := .done, pending := some .ret }) (st' := .done .ret) hget3 hvb3 hb3 rfl rfl rfl rfl ⟨rfl, rfl⟩
    exact ⟨_, _, run_endRound (some .ret) hb3, false, _, _, F3, V3, rfl, hs1.trans (s2.trans (hs3.trans s4)), i4, hr3.fresh, hk⟩
  | exit i =>
    simp only [withUpd_eq] at hk
    obtain ⟨i4, s4⟩ := i3.setLoop (r' := { r3 with state := .done, pending := some (.exit i) }) (st' := .done (.exit i)) hget3 hvb3 hb3 rfl rfl rfl rfl ⟨rfl, rfl⟩
    exact ⟨_, _, run_endRound (some (.exit i)) hb3, false, _, _, F3, V3, rfl, hs1.trans (s2.trans (hs3.trans s4)), i4, hr3.fresh, hk⟩

end
end Go.Sym

namespace Go.Sym

def renP (ρ : Nat → Nat) : Perm → Perm
  | .none => .none
  | .full => .full
  | .zero => .zero
  | .tok t s => .tok (ρ t) s

mutual
def ren (ρ : Nat → Nat) : AV → AV
  | .top => .top
  | .bool b => .bool b
  | .bl b => .bl b
  | .int k n => .int k n
  | .str s => .str s
  | .nilp => .nilp
  | .nils => .nils
  | .nilm => .nilm
  | .nilf => .nilf
  | .nili => .nili
  | .ptr id off => .ptr (ρ id) off
  | .aptr id i => .aptr (ρ id) i
  | .ref v => .ref (ren ρ v)
  | .sl p k els => .sl (renP ρ p) k (renL ρ els)
  | .arr id k n => .arr (ρ id) k n
  | .vec id k n c => .vec (ρ id) k n c
  | .map id => .map (ρ id)
  | .fn f caps => .fn f (renL ρ caps)
  | .yld l => .yld (ρ l)
  | .iface t v => .iface t (ren ρ v)
  | .agg l => .agg (renL ρ l)
  | .tup l => .tup (renL ρ l)
def renL (ρ : Nat → Nat) : List AV → List AV
  | [] => []
  | a :: l => ren ρ a :: renL ρ l
end

def renE (ρ : Nat → Nat) : List (AV × AV) → List (AV × AV)
  | [] => []
  | (a, b) :: r => (ren ρ a, ren ρ b) :: renE ρ r

def renV (ρ : Nat → Nat) : List (Nat × AV) → List (Nat × AV)
  | [] => []
  | (t, v) :: r => (t, ren ρ v) :: renV ρ r

theorem look_renV (ρ : Nat → Nat) : ∀ (en : List (Nat × AV)) (t : Nat), look (renV ρ en) t = ren ρ (look en t)
  | [], t => rfl
  | (i, v) :: r, t => by
    simp only [renV, look]
    cases Nat.beq i t with
    | true => rfl
    | false => exact look_renV ρ r t

def renO (ρ : Nat → Nat) : AObj → AObj
  | .cells l => .cells (renL ρ l)
  | .tip s => .tip s
  | .map es => .map (renE ρ es)
  | .ment es j s => .ment (renE ρ es) j s
  | .mapN es bs c => .mapN (renE ρ es) bs c
  | .iter m since seen last => .iter (ρ m) since seen last
  | .loop en kk ps as bo st => .loop (renV ρ en) kk ps as bo st

def View.comap (V : View) (ρ : Nat → Nat) : View := ⟨fun id => V.obj (ρ id), fun t => V.tok (ρ t)⟩

theorem renL_len (ρ : Nat → Nat) : ∀ l : List AV, (renL ρ l).length = l.length
  | [] => rfl
  | a :: l => by simp only [renL, List.length_cons, renL_len ρ l]

theorem permOk_ren {V : View} {ρ : Nat → Nat} {p : Perm} {b o k len cap : Nat} : permOk V (renP ρ p) b o k len cap ↔ permOk (V.comap ρ) p b o k len cap := by cases p <;> exact Iff.rfl
theorem permNil_ren {V : View} {ρ : Nat → Nat} {p : Perm} : permNil V (renP ρ p) ↔ permNil (V.comap ρ) p := by cases p <;> exact Iff.rfl

mutual
theorem rep_ren {F : Fix} {V : View} {ρ : Nat → Nat} : ∀ (a : AV) (v : Value), rep F V (ren ρ a) v ↔ rep F (V.comap ρ) a v
  | .top, _ | .bool _, _ | .bl _, _ | .int _ _, _ | .str _, _ | .nilp, _ | .nils, _ | .nilm, _ | .nilf, _ | .nili, _ => by simp [ren, rep]
  | .ptr _ _, _ | .aptr _ _, _ | .arr _ _ _, _ | .vec _ _ _ _, _ | .map _, _ | .yld _, _ => by simp only [ren, rep]; exact Iff.rfl
  | .ref a, v => by
    simp only [ren, rep]
    constructor
    · rintro ⟨b, o, x, h1, h2, h3⟩; exact ⟨b, o, x, h1, (rep_ren a x).1 h2, h3⟩
    · rintro ⟨b, o, x, h1, h2, h3⟩; exact ⟨b, o, x, h1, (rep_ren a x).2 h2, h3⟩
  | .sl p k els, v => by
    simp only [ren, rep]
    constructor
    · rintro (⟨b, o, cap, vs, h1, h2, h3, h4, h5⟩ | ⟨h1, h2, h3⟩)
      · exact .inl ⟨b, o, cap, vs, h1, (repL_ren els vs).1 h2, h3, h4, permOk_ren.1 h5⟩
      · refine .inr ⟨?_, h2, permNil_ren.1 h3⟩
        cases els with
        | nil => rfl
        | cons a l => simp [renL] at h1
    · rintro (⟨b, o, cap, vs, h1, h2, h3, h4, h5⟩ | ⟨h1, h2, h3⟩)
      · exact .inl ⟨b, o, cap, vs, h1, (repL_ren els vs).2 h2, h3, h4, permOk_ren.2 h5⟩
      · subst h1
        exact .inr ⟨rfl, h2, permNil_ren.2 h3⟩
  | .fn f caps, v => by
    simp only [ren, rep]
    constructor
    · rintro ⟨vs, h1, h2⟩; exact ⟨vs, h1, (repL_ren caps vs).1 h2⟩
    · rintro ⟨vs, h1, h2⟩; exact ⟨vs, h1, (repL_ren caps vs).2 h2⟩
  | .iface t a, v => by
    simp only [ren, rep]
    constructor
    · rintro ⟨x, h1, h2⟩; exact ⟨x, h1, (rep_ren a x).1 h2⟩
    · rintro ⟨x, h1, h2⟩; exact ⟨x, h1, (rep_ren a x).2 h2⟩
  | .agg l, v => by
    simp only [ren, rep]
    constructor
    · rintro ⟨vs, h1, h2, h3⟩; exact ⟨vs, h1, (repL_ren l vs).1 h2, h3⟩
    · rintro ⟨vs, h1, h2, h3⟩; exact ⟨vs, h1, (repL_ren l vs).2 h2, h3⟩
  | .tup l, v => by
    simp only [ren, rep]
    constructor
    · rintro ⟨vs, h1, h2⟩; exact ⟨vs, h1, (repL_ren l vs).1 h2⟩
    · rintro ⟨vs, h1, h2⟩; exact ⟨vs, h1, (repL_ren l vs).2 h2⟩
theorem repL_ren {F : Fix} {V : View} {ρ : Nat → Nat} : ∀ (l : List AV) (vs : List Value), repL F V (renL ρ l) vs ↔ repL F (V.comap ρ) l vs
  | [], _ => by simp [renL, repL]
  | a :: l, vs => by
    simp only [renL, repL]
    constructor
    · rintro ⟨x, r, h1, h2, h3⟩; exact ⟨x, r, h1, (rep_ren a x).1 h2, (repL_ren l r).1 h3⟩
    · rintro ⟨x, r, h1, h2, h3⟩; exact ⟨x, r, h1, (rep_ren a x).2 h2, (repL_ren l r).2 h3⟩
end

theorem renE_fst {ρ : Nat → Nat} : ∀ es : List (AV × AV), (renE ρ es).map (·.1) = renL ρ (es.map (·.1))
  | [] => rfl
  | (a, b) :: r => by simp [renE, renL, renE_fst r]
theorem renE_snd {ρ : Nat → Nat} : ∀ es : List (AV × AV), (renE ρ es).map (·.2) = renL ρ (es.map (·.2))
  | [] => rfl
  | (a, b) :: r => by simp [renE, renL, renE_snd r]

theorem own_ren {V : View} {ρ : Nat → Nat} {id : Nat} {o : AObj} : own V (ρ id) (renO ρ o) = own (V.comap ρ) id o := by cases o <;> rfl
theorem free_ren {V : View} {ρ : Nat → Nat} {id off : Nat} {o : AObj} : free V (ρ id) off (renO ρ o) ↔ free (V.comap ρ) id off o := by cases o <;> exact Iff.rfl
theorem objRep_ren {F : Fix} {V : View} {w : World} {ρ : Nat → Nat} {id : Nat} {o : AObj} : objRep F V w (ρ id) (renO ρ o) ↔ objRep F (V.comap ρ) w id o := by
  cases o with
  | cells l => simp only [renO, objRep, repL_ren, renL_len]; exact Iff.rfl
  | tip s => exact Iff.rfl
  | map es => simp only [renO, objRep, renE_fst, renE_snd, repL_ren]; exact Iff.rfl
  | ment es mj ms => simp only [renO, objRep, renE_fst, renE_snd, repL_ren]; exact Iff.rfl
  | mapN es nb nc => simp only [renO, objRep, renE_fst, renE_snd, repL_ren]; exact Iff.rfl
  | iter im isn ise il => exact Iff.rfl
  | loop en kk ps as bo st => simp only [renO, objRep, look_renV, rep_ren]; exact Iff.rfl

/-- A contract's names, at the caller: the first ones are those given; the others are new. -/
def rho (nx : Nat) : List Nat → Nat → Nat
  | [], i => nx + i
  | n :: r, i => match i with
    | 0 => n
    | i + 1 => rho nx r i

def idx (j : Nat) : List Nat → Option Nat
  | [] => none
  | n :: r => bif Nat.beq n j then some 0 else match idx j r with
    | some i => some (i + 1)
    | none => none

def okNames (nx : Nat) : List Nat → Bool
  | [] => true
  | n :: r => Nat.blt n nx && (!(memN n r) && okNames nx r)

theorem rho_ge (nx : Nat) : ∀ (names : List Nat) (i : Nat), rho nx names (names.length + i) = nx + i
  | [], i => by simp [rho]
  | n :: r, i => by
    have e : (n :: r).length + i = (r.length + i) + 1 := by simp; omega
    rw [e]
    exact rho_ge nx r i

theorem rho_mem (nx : Nat) : ∀ (names : List Nat) (i : Nat), i < names.length → rho nx names i ∈ names
  | [], i, h => by simp at h
  | n :: r, 0, h => by simp [rho]
  | n :: r, i + 1, h => List.mem_cons_of_mem _ (rho_mem nx r i (by simpa using h))

theorem okNames_lt {nx : Nat} : ∀ {names : List Nat}, okNames nx names = true → ∀ n ∈ names, n < nx
  | [], _, n, h => by simp at h
  | m :: r, h, n, hn => by
    simp only [okNames, Bool.and_eq_true] at h
    rcases List.mem_cons.1 hn with rfl | hn
    · exact Nat.le_of_ble_eq_true h.1
    · exact okNames_lt h.2.2 n hn

theorem idx_none {j : Nat} : ∀ {names : List Nat}, idx j names = none ↔ j ∉ names
  | [] => by simp [idx]
  | n :: r => by
    have ih := idx_none (j := j) (names := r)
    unfold idx
    cases e : Nat.beq n j with
    | true => simp [Nat.eq_of_beq_eq_true e]
    | false =>
      have : j ≠ n := fun h => by subst h; simp at e
      cases hi : idx j r with
      | none => simp [this, ih.1 hi]
      | some i =>
        have : j ∈ r := by
          by_cases h : j ∈ r
          · exact h
          · rw [ih.2 h] at hi; cases hi
        simp [this]

theorem idx_rho {nx : Nat} : ∀ {names : List Nat}, okNames nx names = true → ∀ i, i < names.length → idx (rho nx names i) names = some i
  | [], _, i, h => by simp at h
  | n :: r, hok, 0, h => by simp [idx, rho]
  | n :: r, hok, i + 1, h => by
    simp only [okNames, Bool.and_eq_true, Bool.not_eq_true'] at hok
    have hm := rho_mem nx r i (by simpa using h)
    have hne : n ≠ rho nx r i := by
      intro e
      have := (memN_iff n r).2 (e ▸ hm)
      rw [hok.2.1] at this; cases this
    simp only [rho, idx, beqF hne, cond_false, idx_rho hok.2.2 i (by simpa using h)]

theorem rho_idx {nx : Nat} {j : Nat} : ∀ {names : List Nat} {i : Nat}, idx j names = some i → rho nx names i = j ∧ i < names.length
  | [], i, h => by simp [idx] at h
  | n :: r, i, h => by
    unfold idx at h
    cases e : Nat.beq n j with
    | true =>
      rw [e] at h
      simp only [cond_true, Option.some.injEq] at h
      subst h
      exact ⟨Nat.eq_of_beq_eq_true e, by simp⟩
    | false =>
      rw [e] at h
      simp only [cond_false] at h
      cases hi : idx j r with
      | none => rw [hi] at h; cases h
      | some k =>
        rw [hi] at h
        simp only [Option.some.injEq] at h
        subst h
        obtain ⟨h1, h2⟩ := rho_idx (nx := nx) hi
        exact ⟨h1, by simpa using h2⟩

def Sub (nx : Nat) (names : List Nat) (h : Heap) : Heap → Prop
  | [] => True
  | (i, o) :: r => (i < names.length ∧ get h (rho nx names i) = some (renO (rho nx names) o)) ∧ Sub nx names h r

theorem Sub.get {nx : Nat} {names : List Nat} {h : Heap} : ∀ {h0 : Heap}, Sub nx names h h0 → ∀ i o, Go.Sym.get h0 i = some o → i < names.length ∧ Go.Sym.get h (rho nx names i) = some (renO (rho nx names) o)
  | [], _, i, o, hg => by simp [Go.Sym.get] at hg
  | (j, x) :: r, hs, i, o, hg => by
    simp only [Go.Sym.get] at hg
    cases e : Nat.beq j i with
    | true =>
      rw [e] at hg
      simp only [cond_true, Option.some.injEq] at hg
      subst hg
      obtain rfl := Nat.eq_of_beq_eq_true e
      exact hs.1
    | false =>
      rw [e] at hg
      exact Sub.get hs.2 i o hg

/-- The caller's objects behind the call. -/
def keepH (nx : Nat) (names : List Nat) (h0 : Heap) : Heap → Heap
  | [] => []
  | (j, o) :: r => match idx j names with
    | some i => match get h0 i with
      | some o' => (j, renO (rho nx names) o') :: keepH nx names h0 r
      | none => keepH nx names h0 r
    | none => (j, o) :: keepH nx names h0 r
def newH (nx : Nat) (names : List Nat) (rest : Heap) : Heap → Heap
  | [] => rest
  | (i, o) :: r => bif Nat.blt i names.length then newH nx names rest r else (rho nx names i, renO (rho nx names) o) :: newH nx names rest r
def mergeH (nx : Nat) (names : List Nat) (h h0 : Heap) : Heap := newH nx names (keepH nx names h0 h) h0

end Go.Sym

namespace Go.Sym

section
variable {nx : Nat} {names : List Nat}

theorem get_cons' (i j : Nat) (o : AObj) (r : Heap) : get ((i, o) :: r) j = if i = j then some o else get r j := by
  by_cases h : i = j
  · subst h; simp [get]
  · simp [get, h, beqF h]

theorem get_keepH {h0 : Heap} {j : Nat} {o : AObj} : ∀ {h : Heap}, get (keepH nx names h0 h) j = some o →
    (∃ i o', idx j names = some i ∧ get h0 i = some o' ∧ o = renO (rho nx names) o') ∨ (idx j names = none ∧ get h j = some o)
  | [], hg => by simp [keepH, get] at hg
  | (j0, o0) :: r, hg => by
    unfold keepH at hg
    by_cases e : j0 = j
    · subst e
      cases hi : idx j0 names with
      | none =>
        rw [hi] at hg
        simp only [get_cons', if_true] at hg
        exact .inr ⟨rfl, by rw [get_cons']; simpa using hg⟩
      | some i =>
        rw [hi] at hg
        simp only at hg
        cases h0i : get h0 i with
        | none =>
          rw [h0i] at hg
          rcases get_keepH hg with h | ⟨h1, h2⟩
          · rw [hi] at h; exact .inl h
          · rw [hi] at h1; cases h1
        | some o' =>
          rw [h0i] at hg
          simp only [get_cons', if_true, Option.some.injEq] at hg
          exact .inl ⟨i, o', rfl, h0i, hg.symm⟩
    · have step : get (keepH nx names h0 r) j = some o := by
        cases hi : idx j0 names with
        | none => rw [hi] at hg; simpa only [get_cons', if_neg e] using hg
        | some i =>
          rw [hi] at hg
          simp only at hg
          cases h0i : get h0 i with
          | none => rw [h0i] at hg; exact hg
          | some o' => rw [h0i] at hg; simpa only [get_cons', if_neg e] using hg
      rcases get_keepH step with h | ⟨h1, h2⟩
      · exact .inl h
      · exact .inr ⟨h1, by rw [get_cons', if_neg e]; exact h2⟩

theorem get_newH {rest : Heap} {j : Nat} {o : AObj} : ∀ {h0 : Heap}, get (newH nx names rest h0) j = some o →
    (∃ i o', names.length ≤ i ∧ j = rho nx names i ∧ get h0 i = some o' ∧ o = renO (rho nx names) o') ∨ get rest j = some o
  | [], hg => .inr hg
  | (i, x) :: r, hg => by
    unfold newH at hg
    cases e : Nat.blt i names.length with
    | true =>
      rw [e] at hg
      have hlt : i < names.length := Nat.le_of_ble_eq_true e
      rcases get_newH hg with ⟨i', o', h1, h2, h3, h4⟩ | h
      · exact .inl ⟨i', o', h1, h2, by rw [get_cons', if_neg (by omega)]; exact h3, h4⟩
      · exact .inr h
    | false =>
      rw [e] at hg
      have hge : names.length ≤ i := by
        rcases Nat.lt_or_ge i names.length with h | h
        · rw [show Nat.blt i names.length = true from Nat.ble_eq_true_of_le h] at e; cases e
        · exact h
      simp only [cond_false] at hg
      rw [get_cons'] at hg
      by_cases ej : rho nx names i = j
      · simp only [ej, if_true, Option.some.injEq] at hg
        exact .inl ⟨i, x, hge, ej.symm, by rw [get_cons']; simp, hg.symm⟩
      · simp only [ej, if_false] at hg
        rcases get_newH hg with ⟨i', o', h1, h2, h3, h4⟩ | h
        · have : i ≠ i' := fun h => ej (by rw [h, h2])
          exact .inl ⟨i', o', h1, h2, by rw [get_cons', if_neg this]; exact h3, h4⟩
        · exact .inr h

def glue {α : Type} (nx : Nat) (names : List Nat) (f g : Nat → Option α) (j : Nat) : Option α :=
  match idx j names with
  | some i => g i
  | none => if nx ≤ j then g (names.length + (j - nx)) else f j

theorem rho_big (hok : okNames nx names = true) {i : Nat} (h : names.length ≤ i) : rho nx names i = nx + (i - names.length) ∧ idx (rho nx names i) names = none := by
  obtain ⟨k, rfl⟩ : ∃ k, i = names.length + k := ⟨i - names.length, by omega⟩
  rw [rho_ge]
  refine ⟨by omega, idx_none.2 fun hm => ?_⟩
  have := okNames_lt hok _ hm
  omega

theorem glue_rho {α : Type} (hok : okNames nx names = true) (f g : Nat → Option α) (i : Nat) : glue nx names f g (rho nx names i) = g i := by
  unfold glue
  rcases Nat.lt_or_ge i names.length with h | h
  · rw [idx_rho hok i h]
  · obtain ⟨h1, h2⟩ := rho_big hok h
    rw [h2, h1]
    simp only [Nat.le_add_right, if_true]
    congr 1; omega

theorem rho_inj (hok : okNames nx names = true) {i j : Nat} (h : rho nx names i = rho nx names j) : i = j := by
  have := glue_rho (α := Nat) hok (fun _ => none) some i
  rw [h, glue_rho hok] at this
  exact (Option.some.inj this).symm

theorem glue_old {α : Type} {f g : Nat → Option α} {j : Nat} (hi : idx j names = none) (hj : j < nx) : glue nx names f g j = f j := by
  unfold glue
  rw [hi]
  simp only
  rw [if_neg (by omega)]

theorem CallOK.frame {P : Program} {f : FuncId} {args args0 : List AV} {h h0 : Heap} {K0 KK : AV → Heap → Nat → Prop} (c : CallOK P f args0 h0 names.length K0) (hok : okNames nx names = true)
    (hsub : Sub nx names h h0) (hargs : args = renL (rho nx names) args0)
    (hK : ∀ a0 h0' m', K0 a0 h0' m' → KK (ren (rho nx names) a0) (mergeH nx names h h0') (nx + (m' - names.length))) : CallOK P f args h nx KK := by
  obtain ⟨c1, c2⟩ := c
  refine ⟨c1, fun F V w vs hi hfr hr => ?_⟩
  subst hargs
  let ρ := rho nx names
  have big : ∀ i, names.length ≤ i → nx ≤ ρ i := fun i hi => by have := (rho_big hok hi).1; show nx ≤ rho nx names i; omega
  have hi0 : Inv F (V.comap ρ) h0 w := by
    refine ⟨hi.fixed, fun id o hg => ?_, fun id o b off hg ho hf => ?_, fun id id' o o' b hg hg' ho ho' => ?_⟩
    · exact objRep_ren.1 (hi.objs _ _ (hsub.get id o hg).2)
    · exact hi.nofix _ _ b off (hsub.get id o hg).2 (by rw [own_ren]; exact ho) (free_ren.2 hf)
    · exact rho_inj hok (hi.inj _ _ _ _ b (hsub.get id o hg).2 (hsub.get id' o' hg').2 (by rw [own_ren]; exact ho) (by rw [own_ren]; exact ho'))
  have hfr0 : Go.Sym.fresh (V.comap ρ) names.length := fun i hi => hfr _ (big i hi)
  have own0 : ∀ b, Own (V.comap ρ) h0 b → Own V h b := by
    rintro b ⟨id, o, hg, ho⟩
    exact ⟨_, _, (hsub.get id o hg).2, by rw [own_ren]; exact ho⟩
  refine (c2 F (V.comap ρ) w vs hi0 hfr0 ((repL_ren _ _).1 hr)).mono ?_
  rintro e w' ⟨v, F', V0', a0, h0', m', rfl, hs, hi', hfr', hrep, hk⟩
  let V' : View := ⟨glue nx names V.obj V0'.obj, glue nx names V.tok V0'.tok⟩
  have hcm : V'.comap ρ = V0' := by
    show View.mk _ _ = V0'
    have e1 : (fun id => V'.obj (ρ id)) = V0'.obj := funext fun id => glue_rho hok _ _ id
    have e2 : (fun id => V'.tok (ρ id)) = V0'.tok := funext fun id => glue_rho hok _ _ id
    rw [e1, e2]
  have hVle : V.le V' := by
    refine ⟨fun id b hb => ?_, fun t x hx => ?_⟩
    · cases hidx : idx id names with
      | some i =>
        obtain ⟨r1, r2⟩ := rho_idx (nx := nx) hidx
        show glue nx names V.obj V0'.obj id = some b
        rw [← r1, glue_rho hok]
        exact hs.view.obj i b (by show V.obj (rho nx names i) = some b; rw [r1]; exact hb)
      | none =>
        have : id < nx := by
          rcases Nat.lt_or_ge id nx with h | h
          · exact h
          · rw [(hfr id h).1] at hb; cases hb
        show glue nx names V.obj V0'.obj id = some b
        rw [glue_old hidx this]; exact hb
    · cases hidx : idx t names with
      | some i =>
        obtain ⟨r1, r2⟩ := rho_idx (nx := nx) hidx
        obtain ⟨y, y1, y2, y3⟩ := hs.view.tok i x (by show V.tok (rho nx names i) = some x; rw [r1]; exact hx)
        refine ⟨y, ?_, y2, y3⟩
        show glue nx names V.tok V0'.tok t = some y
        rw [← r1, glue_rho hok]; exact y1
      | none =>
        have : t < nx := by
          rcases Nat.lt_or_ge t nx with h | h
          · exact h
          · rw [(hfr t h).2] at hx; cases hx
        refine ⟨x, ?_, Nat.le_refl _, fun _ => rfl⟩
        show glue nx names V.tok V0'.tok t = some x
        rw [glue_old hidx this]; exact hx
  -- an object of the frame
  have hblk : ∀ id o b, get h id = some o → own V id o = some b → b < w.heap.size := by
    intro id o b hg ho
    have := hi.objs id o hg
    have key : ∀ c, w.heap[b]? = some c → b < w.heap.size := fun c hc => (Array.getElem?_eq_some_iff.1 hc).1
    cases o with
    | cells l => obtain ⟨b', vs, e, h1, h2, _⟩ := this; simp only [own] at ho; rw [h1] at ho; cases ho; exact key _ h2
    | map es => obtain ⟨b', xs, c, h1, h2, _⟩ := this; simp only [own] at ho; rw [h1] at ho; cases ho; exact key _ h2
    | ment es mj ms => obtain ⟨b', xs, c, h1, h2, _⟩ := this; simp only [own] at ho; rw [h1] at ho; cases ho; exact key _ h2
    | mapN es nb nc => obtain ⟨b', xs, c, h1, h2, _⟩ := this; simp only [own] at ho; rw [h1] at ho; cases ho; exact key _ h2
    | iter im isn ise il => obtain ⟨b', xs, c, h1, h2, _⟩ := this; simp only [own] at ho; rw [h1] at ho; cases ho; exact key _ h2
    | loop en kk ps as bo st => obtain ⟨b', r, h1, h2, _⟩ := this; simp only [own] at ho; rw [h1] at ho; cases ho; exact key _ h2
    | tip s =>
      obtain ⟨x, h1, h2, h3⟩ := this
      simp only [own, h1, Option.bind_some] at ho
      obtain ⟨vs, e, z, h4, _⟩ := h3 b ho
      exact key _ h4
  have frame_own : ∀ id o, idx id names = none → get h id = some o → own V' id o = own V id o := by
    intro id o hidx hg
    have hlt : id < nx := by
      rcases Nat.lt_or_ge id nx with h' | h'
      · exact h'
      · have := hi.objs id o hg
        have h0 := hfr id h'
        cases o with
        | cells l => obtain ⟨b', vs, e, h1, _⟩ := this; rw [h0.1] at h1; cases h1
        | map es => obtain ⟨b', xs, c, h1, _⟩ := this; rw [h0.1] at h1; cases h1
        | ment es mj ms => obtain ⟨b', xs, c, h1, _⟩ := this; rw [h0.1] at h1; cases h1
        | mapN es nb nc => obtain ⟨b', xs, c, h1, _⟩ := this; rw [h0.1] at h1; cases h1
        | iter im isn ise il => obtain ⟨b', xs, c, h1, _⟩ := this; rw [h0.1] at h1; cases h1
        | loop en kk ps as bo st => obtain ⟨b', r, h1, _⟩ := this; rw [h0.1] at h1; cases h1
        | tip s => obtain ⟨x, h1, _⟩ := this; rw [h0.2] at h1; cases h1
    have e1 : V'.obj id = V.obj id := glue_old hidx hlt
    have e2 : V'.tok id = V.tok id := glue_old hidx hlt
    cases o <;> simp only [own, e1, e2]
  have frame_view : ∀ id o, idx id names = none → get h id = some o → V'.obj id = V.obj id ∧ V'.tok id = V.tok id := by
    intro id o hidx hg
    have hlt : id < nx := by
      rcases Nat.lt_or_ge id nx with h' | h'
      · exact h'
      · have := hi.objs id o hg
        have h0 := hfr id h'
        cases o with
        | cells l => obtain ⟨b', vs, e, h1, _⟩ := this; rw [h0.1] at h1; cases h1
        | map es => obtain ⟨b', xs, c, h1, _⟩ := this; rw [h0.1] at h1; cases h1
        | ment es mj ms => obtain ⟨b', xs, c, h1, _⟩ := this; rw [h0.1] at h1; cases h1
        | mapN es nb nc => obtain ⟨b', xs, c, h1, _⟩ := this; rw [h0.1] at h1; cases h1
        | iter im isn ise il => obtain ⟨b', xs, c, h1, _⟩ := this; rw [h0.1] at h1; cases h1
        | loop en kk ps as bo st => obtain ⟨b', r, h1, _⟩ := this; rw [h0.1] at h1; cases h1
        | tip s => obtain ⟨x, h1, _⟩ := this; rw [h0.2] at h1; cases h1
    exact ⟨glue_old hidx hlt, glue_old hidx hlt⟩
  have frame_no : ∀ id o b, idx id names = none → get h id = some o → own V id o = some b → ¬ Own (V.comap ρ) h0 b := by
    rintro id o b hidx hg ho ⟨i, o0, hg0, ho0⟩
    obtain ⟨q1, q2⟩ := hsub.get i o0 hg0
    have := hi.inj _ _ _ _ b hg q2 ho (by rw [own_ren]; exact ho0)
    subst this
    exact idx_none.1 hidx (rho_mem nx names i q1)
  have frame_cell : ∀ id o b, idx id names = none → get h id = some o → own V id o = some b → w'.heap[b]? = w.heap[b]? := fun id o b hidx hg ho =>
    hs.touch b (hblk id o b hg ho) (frame_no id o b hidx hg ho)
  have cases' : ∀ {j o}, get (mergeH nx names h h0') j = some o → (∃ i o', j = ρ i ∧ get h0' i = some o' ∧ o = renO ρ o') ∨ (idx j names = none ∧ get h j = some o) := by
    intro j o hg
    rcases get_newH hg with ⟨i, o', h1, h2, h3, h4⟩ | hg
    · exact .inl ⟨i, o', h2, h3, h4⟩
    · rcases get_keepH hg with ⟨i, o', h1, h2, h3⟩ | h1
      · exact .inl ⟨i, o', (rho_idx h1).1.symm, h2, h3⟩
      · exact .inr h1
  have ownV' : ∀ i o', own V' (ρ i) (renO ρ o') = own V0' i o' := fun i o' => by rw [own_ren, hcm]
  refine ⟨v, F', V', ren ρ a0, mergeH nx names h h0', nx + (m' - names.length), rfl, ?_, ?_, ?_, (rep_ren _ _).2 (by rw [hcm]; exact hrep), hK a0 h0' m' hk⟩
  · refine ⟨hs.fix, hVle, ?_, ?_, hs.size, fun b hb hno => hs.touch b hb fun h => hno (own0 b h), hs.os, hs.tape, hs.output, hs.drawn⟩
    · rintro b ⟨j, o, hg, ho⟩
      rcases cases' hg with ⟨i, o', rfl, h2, rfl⟩ | ⟨h1, h2⟩
      · rw [ownV'] at ho
        exact (hs.own b ⟨i, o', h2, ho⟩).imp (own0 b) id
      · rw [frame_own j o h1 h2] at ho
        exact .inl ⟨j, o, h2, ho⟩
    · intro b o x hx
      rcases hs.newfix b o x hx with h | h | h
      · exact .inl h
      · exact .inr (.inl (own0 b h))
      · exact .inr (.inr h)
  · refine ⟨hi'.fixed, fun j o hg => ?_, fun j o b off hg ho hf => ?_, fun j j' o o' b hg hg' ho ho' => ?_⟩
    · rcases cases' hg with ⟨i, o', rfl, h2, rfl⟩ | ⟨h1, h2⟩
      · exact objRep_ren.2 (by rw [hcm]; exact hi'.objs i o' h2)
      · have hobj := hi.objs j o h2
        obtain ⟨v1, v2⟩ := frame_view j o h1 h2
        cases o with
        | cells l =>
          obtain ⟨b, vs, e, q1, q2, q3, q4⟩ := hobj
          exact ⟨b, vs, e, by rw [v1]; exact q1, by rw [frame_cell j _ b h1 h2 q1]; exact q2, q3.mono hs.fix hVle, q4⟩
        | tip s =>
          obtain ⟨x, q1, q2, q3⟩ := hobj
          refine ⟨x, by rw [v2]; exact q1, q2, fun b hb => ?_⟩
          rw [frame_cell j (.tip s) b h1 h2 (by simp only [own, q1, Option.bind_some]; exact hb)]
          exact q3 b hb
        | map es =>
          obtain ⟨b, xs, clock, q1, q2, q3, q4, q5⟩ := hobj
          exact ⟨b, xs, clock, by rw [v1]; exact q1, by rw [frame_cell j _ b h1 h2 q1]; exact q2, q3.mono hs.fix hVle, q4.mono hs.fix hVle, q5⟩
        | ment es mj ms =>
          obtain ⟨b, xs, clock, q1, q2, q3, q4, q5⟩ := hobj
          exact ⟨b, xs, clock, by rw [v1]; exact q1, by rw [frame_cell j _ b h1 h2 q1]; exact q2, q3.mono hs.fix hVle, q4.mono hs.fix hVle, q5⟩
        | mapN es nb nc =>
          obtain ⟨b, xs, clock, q1, q2, q3, q4, q5⟩ := hobj
          exact ⟨b, xs, clock, by rw [v1]; exact q1, by rw [frame_cell j _ b h1 h2 q1]; exact q2, q3.mono hs.fix hVle, q4.mono hs.fix hVle, q5⟩
        | iter im isn ise il =>
          obtain ⟨b, xs, clock, q1, q2, q3⟩ := hobj
          exact ⟨b, xs, clock, by rw [v1]; exact q1, by rw [frame_cell j _ b h1 h2 q1]; exact q2, hVle.obj _ _ q3⟩
        | loop en kk ps as bo st =>
          obtain ⟨b, r, q1, q2, q3, q4, q5, q6, q7, q8⟩ := hobj
          exact ⟨b, r, by rw [v1]; exact q1, by rw [frame_cell j _ b h1 h2 q1]; exact q2, q3, q4, q5, q6, fun t => rep.mono hs.fix hVle _ _ (q7 t), q8⟩
    · rcases cases' hg with ⟨i, o', rfl, h2, rfl⟩ | ⟨h1, h2⟩
      · rw [ownV'] at ho
        exact hi'.nofix i o' b off h2 ho (by rw [← hcm]; exact free_ren.1 hf)
      · rw [frame_own j o h1 h2] at ho
        have hf' : free V j off o := by
          cases o with
          | tip s => simpa only [free, (frame_view j _ h1 h2).2] using hf
          | _ => trivial
        have := hi.nofix j o b off h2 ho hf'
        cases hx : F' b off with
        | none => rfl
        | some x =>
          rcases hs.newfix b off x hx with h | h | h
          · rw [this] at h; cases h
          · exact absurd h (frame_no j o b h1 h2 ho)
          · have := hblk j o b h2 ho; omega
    · have mixed : ∀ {j o j' o'}, (∃ i o0, j = ρ i ∧ get h0' i = some o0 ∧ o = renO ρ o0) → (idx j' names = none ∧ get h j' = some o') → own V' j o = some b → own V' j' o' = some b → False := by
        rintro j o j' o' ⟨i, o0, rfl, h2, rfl⟩ ⟨h3, h4⟩ ho ho'
        rw [ownV'] at ho
        rw [frame_own j' o' h3 h4] at ho'
        rcases hs.own b ⟨i, o0, h2, ho⟩ with h | h
        · exact frame_no j' o' b h3 h4 ho' h
        · have := hblk j' o' b h4 ho'; omega
      rcases cases' hg with hA | hA <;> rcases cases' hg' with hB | hB
      · obtain ⟨i, o0, rfl, h2, rfl⟩ := hA
        obtain ⟨i', o0', rfl, h2', rfl⟩ := hB
        rw [ownV'] at ho ho'
        rw [hi'.inj i i' o0 o0' b h2 h2' ho ho']
      · exact (mixed hA hB ho ho').elim
      · exact (mixed hB hA ho' ho).elim
      · obtain ⟨h1, h2⟩ := hA
        obtain ⟨h1', h2'⟩ := hB
        rw [frame_own j o h1 h2] at ho
        rw [frame_own j' o' h1' h2'] at ho'
        exact hi.inj j j' o o' b h2 h2' ho ho'
  · intro j hj
    have hge : nx ≤ j := by omega
    have hidx : idx j names = none := idx_none.2 fun hm => by have := okNames_lt hok _ hm; omega
    have e : ∀ {α : Type} (f g : Nat → Option α), glue nx names f g j = g (names.length + (j - nx)) := fun f g => by
      unfold glue; rw [hidx]; simp only [hge, if_true]
    obtain ⟨q1, q2⟩ := hfr' (names.length + (j - nx)) (by omega)
    exact ⟨by show glue nx names V.obj V0'.obj j = none; rw [e]; exact q1, by show glue nx names V.tok V0'.tok j = none; rw [e]; exact q2⟩

end
end Go.Sym

namespace Go.Sym

def View.leN (n : Nat) (V V' : View) : Prop :=
  (∀ id b, id < n → V.obj id = some b → V'.obj id = some b) ∧ (∀ t x, t < n → V.tok t = some x → ∃ y, V'.tok t = some y ∧ x.st ≤ y.st ∧ (x.st = y.st → y = x))

def Gh (n : Nat) (f : Nat → AV) (h : Heap) (nx : Nat) (f' : Nat → AV) (h' : Heap) (nx' : Nat) : Prop :=
  n ≤ nx → n ≤ nx' ∧ ∀ F V w (ρ : Nat → Value), Inv F V h w → fresh V nx → (∀ t, rep F V (f t) (ρ t)) →
    ∃ F' V', F.le F' ∧ V.leN n V' ∧ (∀ b, Own V' h' b → Own V h b) ∧ (∀ b o x, F' b o = some x → F b o = some x ∨ Own V h b) ∧ Inv F' V' h' w ∧ fresh V' nx' ∧ ∀ t, rep F' V' (f' t) (ρ t)

theorem View.leN_refl (n : Nat) (V : View) : V.leN n V := ⟨fun _ _ _ h => h, fun _ x _ h => ⟨x, h, Nat.le_refl _, fun _ => rfl⟩⟩
theorem View.leN_trans {n : Nat} {U V W : View} (a : U.leN n V) (b : V.leN n W) : U.leN n W :=
  ⟨fun id c hn h => b.1 id c hn (a.1 id c hn h), fun t x hn h => by
    obtain ⟨y, h1, l1, e1⟩ := a.2 t x hn h
    obtain ⟨z, h2, l2, e2⟩ := b.2 t y hn h1
    refine ⟨z, h2, by omega, fun e => ?_⟩
    obtain rfl := e1 (by omega)
    exact e2 (by omega)⟩
theorem View.le.leN {V V' : View} (h : V.le V') (n : Nat) : V.leN n V' := ⟨fun id b _ => h.obj id b, fun t x _ => h.tok t x⟩

theorem Gh.refl (n : Nat) (f : Nat → AV) (h : Heap) (nx : Nat) : Gh n f h nx f h nx :=
  fun hn => ⟨hn, fun F V _ _ i hf r => ⟨F, V, .refl F, View.leN_refl n V, fun _ h => h, fun _ _ _ h => .inl h, i, hf, r⟩⟩

theorem Gh.trans {n : Nat} {f f' f'' : Nat → AV} {h h' h'' : Heap} {nx nx' nx'' : Nat} (a : Gh n f h nx f' h' nx') (b : Gh n f' h' nx' f'' h'' nx'') : Gh n f h nx f'' h'' nx'' := by
  intro hn
  obtain ⟨n1, a⟩ := a hn
  obtain ⟨n2, b⟩ := b n1
  refine ⟨n2, fun F V w ρ i hf r => ?_⟩
  obtain ⟨F1, V1, a1, a2, a3, a4, a5, a6, a7⟩ := a F V w ρ i hf r
  obtain ⟨F2, V2, b1, b2, b3, b4, b5, b6, b7⟩ := b F1 V1 w ρ a5 a6 a7
  refine ⟨F2, V2, a1.trans b1, View.leN_trans a2 b2, fun x hx => a3 x (b3 x hx), fun x o v hx => ?_, b5, b6, b7⟩
  rcases b4 x o v hx with h | h
  · exact a4 x o v h
  · exact .inr (a3 x h)

theorem Step.ghost {n : Nat} {F0 F F' : Fix} {V0 V V' : View} {h0 h h' : Heap} {w0 w : World} (s : Step F0 V0 h0 w0 F V h w) (hf : fresh V0 n) (h1 : F.le F') (h2 : V.leN n V') (h3 : ∀ b, Own V' h' b → Own V h b)
    (h4 : ∀ b o x, F' b o = some x → F b o = some x ∨ Own V h b) : Step F0 V0 h0 w0 F' V' h' w := by
  have lt : ∀ id, (V0.obj id ≠ none ∨ V0.tok id ≠ none) → id < n := fun id hne => by
    rcases Nat.lt_or_ge id n with h | h
    · exact h
    · have := hf id h; rcases hne with hne | hne
      · exact absurd this.1 hne
      · exact absurd this.2 hne
  refine ⟨s.fix.trans h1, ⟨fun id b hb => h2.1 id b (lt id (.inl (by rw [hb]; simp))) (s.view.obj id b hb), fun t x hx => ?_⟩, fun b hb => s.own b (h3 b hb), fun b o x hx => ?_, s.size, s.touch, s.os, s.tape, s.output, s.drawn⟩
  · have hlt := lt t (.inr (by rw [hx]; simp))
    obtain ⟨y, y1, y2, y3⟩ := s.view.tok t x hx
    obtain ⟨z, z1, z2, z3⟩ := h2.2 t y hlt y1
    refine ⟨z, z1, by omega, fun e => ?_⟩
    obtain rfl := y3 (by omega)
    exact z3 (by omega)
  · rcases h4 b o x hx with h | h
    · exact s.newfix b o x h
    · exact .inr (s.own b h)

/-- A value may be told so, too. -/
def Le (h : Heap) (a b : AV) : Prop := ∀ F V w x, Inv F V h w → rep F V a x → rep F V b x
def LeL (h : Heap) (a b : List AV) : Prop := ∀ F V w x, Inv F V h w → repL F V a x → repL F V b x
def LeO (h : Heap) : AObj → AObj → Prop
  | .cells l, .cells l' => LeL h l l'
  | .tip s, .tip s' => s = s'
  | .map es, .map es' => es = es'
  | .ment es j s, .ment es' j' s' => AObj.ment es j s = .ment es' j' s'
  | .mapN es bs c, .mapN es' bs' c' => AObj.mapN es bs c = .mapN es' bs' c'
  | .mapN es _ _, .map es' => es = es'
  | .iter m a b c, .iter m' a' b' c' => AObj.iter m a b c = .iter m' a' b' c'
  | .loop en kk ps as bo st, .loop en' kk' ps' as' bo' st' => (∀ t, Le h (look en t) (look en' t)) ∧ kk = kk' ∧ ps = ps' ∧ as = as' ∧ bo = bo' ∧ st = st'
  | _, _ => False

theorem Le.refl (h : Heap) (a : AV) : Le h a a := fun _ _ _ _ _ r => r
theorem LeL.refl (h : Heap) (a : List AV) : LeL h a a := fun _ _ _ _ _ r => r
theorem LeO.refl (h : Heap) (o : AObj) : LeO h o o := by
  cases o
  case loop => exact ⟨fun t => Le.refl h _, rfl, rfl, rfl, rfl, rfl⟩
  all_goals simp [LeO, LeL.refl]
theorem Le.top (h : Heap) (a : AV) : Le h a .top := fun _ _ _ _ _ _ => by simp [rep]
theorem LeL.nil (h : Heap) : LeL h [] [] := LeL.refl h []
theorem LeL.cons {h : Heap} {a b : AV} {l m : List AV} (r : Le h a b) (s : LeL h l m) : LeL h (a :: l) (b :: m) := fun F V w x i hr => by
  simp only [repL] at hr ⊢
  obtain ⟨y, z, e, h1, h2⟩ := hr
  exact ⟨y, z, e, r F V w y i h1, s F V w z i h2⟩
theorem Le.none {h : Heap} {p : Perm} {k : Nat} {els : List AV} : Le h (.sl p k els) (.sl .none k els) := fun F V w x i r => by
  simp only [rep] at r ⊢
  rcases r with ⟨b, o, cap, vs, h1, h2, h3, h4, h5⟩ | ⟨h1, h2, h3⟩
  · exact .inl ⟨b, o, cap, vs, h1, h2, h3, h4, h5.le⟩
  · exact .inr ⟨h1, h2, trivial⟩
theorem Le.nils {h : Heap} {k : Nat} : Le h .nils (.sl .none k []) := fun F V w x i r => by
  simp only [rep] at r ⊢
  exact .inr ⟨by first | rfl | trivial, ⟨_, r⟩, trivial⟩
theorem Le.nilsFull {h : Heap} {k : Nat} : Le h .nils (.sl .full k []) := fun F V w x i r => by
  simp only [rep] at r ⊢
  exact .inr ⟨by first | rfl | trivial, ⟨_, r⟩, trivial⟩
theorem Le.nilsTok {h : Heap} {k t s : Nat} (hg : get h t = some (.tip s)) : Le h .nils (.sl (.tok t s) k []) := fun F V w x i r => by
  simp only [rep] at r ⊢
  obtain ⟨y, h1, h2, _⟩ := i.objs t _ hg
  exact .inr ⟨by first | rfl | trivial, ⟨_, r⟩, y, h1, by omega⟩
theorem Le.bl {h : Heap} {b : Bool} : Le h (.bl b) (.bool b) := fun F V w x i r => by simpa only [rep] using r
theorem Le.lb {h : Heap} {b : Bool} : Le h (.bool b) (.bl b) := fun F V w x i r => by simpa only [rep] using r
theorem Le.tup {h : Heap} {l m : List AV} (s : LeL h l m) : Le h (.tup l) (.tup m) := fun F V w x i r => by
  simp only [rep] at r ⊢
  obtain ⟨vs, h1, h2⟩ := r
  exact ⟨vs, h1, s F V w vs i h2⟩
theorem Le.agg {h : Heap} {l m : List AV} (s : LeL h l m) : Le h (.agg l) (.agg m) := fun F V w x i r => by
  simp only [rep] at r ⊢
  obtain ⟨vs, h1, h2, h3⟩ := r
  exact ⟨vs, h1, s F V w vs i h2, h3⟩

theorem Gh.le {n : Nat} {f f' : Nat → AV} {h h' : Heap} {nx : Nat} (hf : ∀ t, Le h (f t) (f' t)) (hh : ∀ id o', get h' id = some o' → ∃ o, get h id = some o ∧ LeO h o o') : Gh n f h nx f' h' nx := by
  intro hn
  refine ⟨hn, fun F V w ρ i hfr r => ?_⟩
  have hown : ∀ id o o', LeO h o o' → own V id o = own V id o' := by
    intro id o o' hl
    cases o <;> cases o' <;> first | rfl | exact hl.elim
  refine ⟨F, V, .refl F, View.leN_refl n V, ?_, fun _ _ _ h => .inl h, ⟨i.fixed, ?_, ?_, ?_⟩, hfr, fun t => hf t F V w (ρ t) i (r t)⟩
  · rintro b ⟨id, o', hg, ho⟩
    obtain ⟨o, h1, h2⟩ := hh id o' hg
    exact ⟨id, o, h1, by rw [hown id o o' h2]; exact ho⟩
  · intro id o' hg
    obtain ⟨o, h1, h2⟩ := hh id o' hg
    have := i.objs id o h1
    cases o <;> cases o' <;> try exact h2.elim
    · obtain ⟨b, vs, e, q1, q2, q3, q4⟩ := this
      have q5 := h2 F V w _ i q3
      have hl := q5.length
      rw [← q3.length] at hl
      exact ⟨b, vs, e, q1, q2, by rw [hl]; exact q5, by rw [hl]; exact q4⟩
    · cases h2; exact this
    · cases h2; exact this
    · cases h2; exact this
    · cases h2
      obtain ⟨b, xs, c, q1, q2, q3, q4, q5, q6, -⟩ := this
      exact ⟨b, xs, c, q1, q2, q3, q4, q5, q6⟩
    · cases h2; exact this
    · cases h2; exact this
    · obtain ⟨hl, rfl, rfl, rfl, rfl, rfl⟩ := h2
      obtain ⟨b, r, q1, q2, q3, q4, q5, q6, q7, q8⟩ := this
      exact ⟨b, r, q1, q2, q3, q4, q5, q6, fun t => hl t F V w _ i (q7 t), q8⟩
  · intro id o' b off hg ho hfree
    obtain ⟨o, h1, h2⟩ := hh id o' hg
    refine i.nofix id o b off h1 (by rw [hown id o o' h2]; exact ho) ?_
    cases o <;> cases o' <;> first | exact h2.elim | exact hfree
  · intro id id' o o' b hg hg' ho ho'
    obtain ⟨x, h1, h2⟩ := hh id o hg
    obtain ⟨x', h1', h2'⟩ := hh id' o' hg'
    exact i.inj id id' x x' b h1 h1' (by rw [hown id x o h2]; exact ho) (by rw [hown id' x' o' h2']; exact ho')

/-- Names are dropped that nothing bears. -/
def cut (n nx i : Nat) : Nat := bif Nat.blt i n then i else nx + i

theorem cut_lt {n nx i : Nat} (h : i < n) : cut n nx i = i := by
  unfold cut
  rw [show Nat.blt i n = true from Nat.ble_eq_true_of_le h]; rfl
theorem cut_ge {n nx i : Nat} (h : n ≤ i) : cut n nx i = nx + i := by
  unfold cut
  have : Nat.blt i n = false := by
    cases e : Nat.blt i n with
    | false => rfl
    | true => have : i < n := Nat.le_of_ble_eq_true e; omega
  rw [this]; rfl

theorem Gh.drop {n n' : Nat} {f : Nat → AV} {h : Heap} {nx : Nat} (hn' : n ≤ n') (hf : ∀ t, ren (cut n' nx) (f t) = f t) (hh : ∀ id o, get h id = some o → id < n' ∧ renO (cut n' nx) o = o) : Gh n f h nx f h n' := by
  intro hn
  refine ⟨hn', fun F V w ρ i hfr r => ?_⟩
  have hown : ∀ id o, get h id = some o → own (V.comap (cut n' nx)) id o = own V id o := by
    intro id o hg
    obtain ⟨h1, h2⟩ := hh id o hg
    rw [← own_ren, h2, cut_lt h1]
  refine ⟨F, V.comap (cut n' nx), .refl F, ⟨fun id b hlt hb => ?_, fun t x hlt hx => ?_⟩, ?_, fun _ _ _ h => .inl h, ⟨i.fixed, ?_, ?_, ?_⟩, ?_, fun t => (rep_ren _ _).1 (by rw [hf]; exact r t)⟩
  · show V.obj (cut n' nx id) = some b
    rw [cut_lt (by omega)]; exact hb
  · refine ⟨x, ?_, Nat.le_refl _, fun _ => rfl⟩
    show V.tok (cut n' nx t) = some x
    rw [cut_lt (by omega)]; exact hx
  · rintro b ⟨id, o, hg, ho⟩
    exact ⟨id, o, hg, by rw [← hown id o hg]; exact ho⟩
  · intro id o hg
    obtain ⟨h1, h2⟩ := hh id o hg
    have := i.objs id o hg
    rw [← h2, ← cut_lt (nx := nx) h1] at this
    exact objRep_ren.1 (by rw [h2] at this ⊢; exact this)
  · intro id o b off hg ho hfree
    obtain ⟨h1, h2⟩ := hh id o hg
    refine i.nofix id o b off hg (by rw [← hown id o hg]; exact ho) ?_
    have := free_ren.2 hfree
    rw [h2, cut_lt h1] at this
    exact this
  · intro id id' o o' b hg hg' ho ho'
    exact i.inj id id' o o' b hg hg' (by rw [← hown id o hg]; exact ho) (by rw [← hown id' o' hg']; exact ho')
  · intro id hid
    have := hfr (nx + id) (by omega)
    rw [← cut_ge hid] at this
    exact this

theorem Gh.token (n : Nat) (f : Nat → AV) (h : Heap) (nx : Nat) : Gh n f h nx f ((nx, .tip 0) :: h) (nx + 1) := by
  intro hn
  refine ⟨by omega, fun F V w ρ i hfr r => ?_⟩
  have hno : get h nx = none := fresh_get i hfr (Nat.le_refl nx)
  obtain ⟨h1, h2⟩ := i.tokVoid (t := nx) (st := 0) (h' := (nx, .tip 0) :: h) (fun y hy => by rw [(hfr nx (Nat.le_refl _)).2] at hy; cases hy) (fun id' o hg => by
    rw [get_cons'] at hg
    by_cases e : nx = id'
    · simp only [e, if_true, Option.some.injEq] at hg; exact .inl ⟨e.symm, hg.symm⟩
    · simp only [e, if_false] at hg; exact .inr ⟨Ne.symm e, hg⟩)
  refine ⟨F, _, .refl F, h2.view.leN n, ?_, fun _ _ _ h => .inl h, h1, fun id hid => ?_, fun t => (r t).mono (.refl F) h2.view⟩
  · rintro b ⟨id, o, hg, ho⟩
    rw [get_cons'] at hg
    by_cases e : nx = id
    · subst e
      simp only [if_true, Option.some.injEq] at hg
      subst hg
      simp [own, View.setTok] at ho
    · simp only [e, if_false] at hg
      refine ⟨id, o, hg, ?_⟩
      cases o <;> simpa [own, View.setTok, Ne.symm e] using ho
  · have hne : id ≠ nx := by omega
    have := hfr id (by omega)
    simp only [View.setTok, hne, if_false]
    exact this

/-- An array of one's own, frozen. -/
theorem Gh.freezeV {n : Nat} {f f' : Nat → AV} {h h' : Heap} {nx id k m : Nat} {l els : List AV} (hg : get h id = some (.cells l))
    (hels : ∀ (F : Fix) (V : View) (us : List Value), repL F V l us → (∀ x ∈ us, x.oneCell' = true) → ∃ xs ys, xs.length = m ∧ repL F V els xs ∧ (∀ x ∈ xs, elemOk k x) ∧ flat xs ++ ys = us)
    (hf : ∀ t, f' t = f t ∨ (f t = .arr id k m ∧ f' t = .sl .full k els) ∨ (∃ c, f t = .vec id k m c ∧ f' t = .sl .none k els))
    (hh : ∀ j o, get h' j = some o → j ≠ id ∧ get h j = some o) : Gh n f h nx f' h' nx := by
  intro hn
  refine ⟨hn, fun F V w ρ i hfr r => ?_⟩
  obtain ⟨b, vs, e, q1, q2, q3, q4⟩ := i.objs id _ hg
  have hown : own V id (.cells l) = some b := q1
  have hnone : ∀ o, F b o = none := fun o => i.nofix id _ b o hg hown trivial
  let F' : Fix := fun b' o => if b' = b then vs[o]? else F b' o
  have hF : F.le F' := ⟨fun b' o x hx => by
    show (if b' = b then vs[o]? else F b' o) = some x
    by_cases e : b' = b
    · subst e; rw [hnone] at hx; cases hx
    · rw [if_neg e]; exact hx⟩
  have hnew : ∀ b' o x, F' b' o = some x → F b' o = some x ∨ b' = b := fun b' o x hx => by
    by_cases e : b' = b
    · exact .inr e
    · have : (if b' = b then vs[o]? else F b' o) = some x := hx
      rw [if_neg e] at this; exact .inl this
  have hno : ∀ j o, get h' j = some o → own V j o = some b → False := fun j o hj ho => by
    obtain ⟨h1, h2⟩ := hh j o hj
    exact h1 (i.inj j id o _ b h2 hg ho hown)
  obtain ⟨xs, ys, hm, hxr, hxe, hxf⟩ := hels F V _ q3 q4
  refine ⟨F', V, hF, View.leN_refl n V, ?_, ?_, ⟨?_, ?_, ?_, ?_⟩, hfr, fun t => ?_⟩
  · rintro b' ⟨j, o, hj, ho⟩
    exact ⟨j, o, (hh j o hj).2, ho⟩
  · intro b' o x hx
    rcases hnew b' o x hx with h | rfl
    · exact .inl h
    · exact .inr ⟨id, _, hg, hown⟩
  · intro b' o x hx
    rcases hnew b' o x hx with h | rfl
    · exact i.fixed b' o x h
    · have : (if b' = b' then vs[o]? else F b' o) = some x := hx
      simp only [if_true] at this
      simp only [World.cell?, q2]
      simpa using this
  · intro j o hj
    obtain ⟨h1, h2⟩ := hh j o hj
    have := i.objs j o h2
    cases o with
    | cells l' =>
      obtain ⟨b', vs', e', p1, p2, p3, p4⟩ := this
      exact ⟨b', vs', e', p1, p2, p3.mono hF (.refl V), p4⟩
    | tip s => exact this
    | map es =>
      obtain ⟨b', xs, clock, p1, p2, p3, p4, p5⟩ := this
      exact ⟨b', xs, clock, p1, p2, p3.mono hF (.refl V), p4.mono hF (.refl V), p5⟩
    | ment es mj ms =>
      obtain ⟨b', xs, clock, p1, p2, p3, p4, p5⟩ := this
      exact ⟨b', xs, clock, p1, p2, p3.mono hF (.refl V), p4.mono hF (.refl V), p5⟩
    | mapN es nb nc =>
      obtain ⟨b', xs, clock, p1, p2, p3, p4, p5⟩ := this
      exact ⟨b', xs, clock, p1, p2, p3.mono hF (.refl V), p4.mono hF (.refl V), p5⟩
    | iter im isn ise il => exact this
    | loop en kk ps as bo st =>
      obtain ⟨b', r', p1, p2, p3, p4, p5, p6, p7, p8⟩ := this
      exact ⟨b', r', p1, p2, p3, p4, p5, p6, fun t => rep.mono hF (.refl V) _ _ (p7 t), p8⟩
  · intro j o b' off hj ho hfree
    have hne : b' ≠ b := fun e => hno j o hj (by rw [← e]; exact ho)
    show (if b' = b then vs[off]? else F b' off) = none
    rw [if_neg hne]
    exact i.nofix j o b' off (hh j o hj).2 ho hfree
  · intro j j' o o' b' hj hj' ho ho'
    exact i.inj j j' o o' b' (hh j o hj).2 (hh j' o' hj').2 ho ho'
  · have fixd : FixedAt F' b 0 (flat xs) := fun j x hx => by
      have hx : (flat xs ++ ys)[j]? = some x := by
        rw [List.getElem?_append_left (by
          rcases Nat.lt_or_ge j (flat xs).length with h' | h'
          · exact h'
          · rw [List.getElem?_eq_none h'] at hx; cases hx)]
        exact hx
      rw [hxf, List.getElem?_take] at hx
      show (if b = b then vs[0 + j]? else F b (0 + j)) = some x
      split at hx
      · simpa using hx
      · cases hx
    rcases hf t with e | ⟨e1, e2⟩ | ⟨vc, e1, e2⟩
    · rw [e]; exact (r t).mono hF (.refl V)
    · have hr := r t
      rw [e1] at hr
      rw [e2]
      simp only [rep] at hr ⊢
      obtain ⟨b', hb', hv⟩ := hr
      rw [q1] at hb'; cases hb'
      exact .inl ⟨b, 0, m, xs, by rw [hv, hm], hxr.mono hF (.refl V), hxe, fixd, by simp [permOk, hm]⟩
    · have hr := r t
      rw [e1] at hr
      rw [e2]
      simp only [rep] at hr ⊢
      obtain ⟨b', hc, hb', hv⟩ := hr
      rw [q1] at hb'; cases hb'
      exact .inl ⟨b, 0, vc, xs, by rw [hv, hm], hxr.mono hF (.refl V), hxe, fixd, by simpa [permOk, hm] using hc⟩

theorem flat_one : ∀ {xs : List Value}, (∀ x ∈ xs, x.oneCell' = true) → flat xs = xs
  | [], _ => rfl
  | x :: xs, h => by
    have ih := flat_one (xs := xs) fun y hy => h y (List.mem_cons_of_mem _ hy)
    unfold flat at ih ⊢
    rw [List.flatMap_cons, cells_one (h x List.mem_cons_self), ih]
    rfl

/-- An array of one's own, frozen. -/
theorem Gh.freeze {n : Nat} {f f' : Nat → AV} {h h' : Heap} {nx id : Nat} {l : List AV} (hg : get h id = some (.cells l)) (hf : ∀ t, f' t = f t ∨ (f t = .arr id 0 l.length ∧ f' t = .sl .full 0 l))
    (hh : ∀ j o, get h' j = some o → j ≠ id ∧ get h j = some o) : Gh n f h nx f' h' nx :=
  Gh.freezeV (k := 0) (m := l.length) (els := l) hg (fun F V us hr ho => ⟨us, [], hr.length.symm, hr, fun x hx => by simp only [elemOk, if_true]; exact ho x hx, by rw [flat_one ho, List.append_nil]⟩) (fun t => (hf t).imp (fun e => e) fun h => .inl h) hh

end Go.Sym

namespace Go.Sym

section
variable {n0 : Nat} {P : Program} {Q : AExit → St → Prop} {K : AV → Heap → Nat → Prop}

theorem Marks.ghost {V V' : View} {h h' : Heap} {w : World} (hown : ∀ b, Own V' h' b → Own V h b) : ∀ {ds : List Deferred}, Marks n0 V h w ds → Marks n0 V' h' w ds
  | [], _ => trivial
  | d :: ds, ⟨⟨r, e, hn, hr, ho, hd⟩, k⟩ => ⟨⟨r, e, hn, hr, fun hh => ho (hown r hh), hd⟩, Marks.ghost hown k⟩

def WkG (n : Nat) (s s' : St) : Prop := n ≤ s.nx ∧ s'.sz = s.sz ∧ Gh n (look s.env) s.h s.nx (look s'.env) s'.h s'.nx

def RoundG {ι : Type} (n : Nat) (inv : ι → St) (μ : ι → Nat) (Q : AExit → St → Prop) (i : ι) (e : AExit) (s : St) : Prop :=
  match e with
  | .normal => ∃ j, μ j < μ i ∧ WkG n s (inv j)
  | .exit n => Q (.exit n) s
  | .ret => Q .ret s

theorem WkG.use {n : Nat} {s s' : St} (h : WkG n s s') {F0 F : Fix} {V0 V : View} {h0 : Heap} {w0 w : World} {a : Act} (hf : fresh V0 n) (hs : Step F0 V0 h0 w0 F V s.h w) (r : Rep n0 F V s a w) : ∃ F' V', Step F0 V0 h0 w0 F' V' s'.h w ∧ Rep n0 F' V' s' a w := by
  obtain ⟨hn, hz, hg⟩ := h
  obtain ⟨_, hg⟩ := hg hn
  obtain ⟨F', V', q1, q2, q3, q4, q5, q6, q7⟩ := hg F V w (fun t => a.tmps.getD t undef) r.inv r.fresh r.env
  exact ⟨F', V', hs.ghost hf q1 q2 q3 q4, r.defers.ghost q3, by rw [hz]; exact r.size, q7, q5, q6⟩

open Classical in
theorem tri_loopG {ι : Type} (inv : ι → St) (μ : ι → Nat) {c : Code} {s : St} (i0 : ι) (h0 : WkG s.nx s (inv i0))
    (round : ∀ i, holds P (RoundG s.nx inv μ Q i) (fun _ _ _ => False) (exec P c (inv i) fun e s => .fin e s)) (hsz : ∀ i, (inv i).sz = s.sz := by intros; rfl) : Tri P (.loop c) s Q := by
  intro n0 n fr F V a w hro hn0 r
  let I : Act → World → ι → Prop := fun a' w' i => ∃ F' V', Step F V s.h w F' V' (inv i).h w' ∧ Rep n0 F' V' (inv i) a' w'
  let M : Act → World → Nat → Prop := fun a' w' n => ∃ i, μ i = n ∧ I a' w' i
  let m : Act → World → Nat := fun a' w' => if h : ∃ n, M a' w' n then (least h).choose else 0
  refine wpIn_loop (fun a' w' => ∃ i, I a' w' i) m ?_ ?_
  · obtain ⟨F', V', s', r'⟩ := h0.use r.fresh (.refl ..) r
    exact ⟨i0, F', V', s', r'⟩
  · rintro a1 w1 ⟨i1, hi1⟩
    have hex : ∃ n, M a1 w1 n := ⟨μ i1, i1, rfl, hi1⟩
    have hm : m a1 w1 = (least hex).choose := dif_pos hex
    obtain ⟨i, hi, F1, V1, s1, r1⟩ := (least hex).choose_spec.1
    refine wpIn_mono (exec_sound (by rw [hsz]; exact hro.mono s1.view) (Nat.le_trans hn0 s1.size) r1 (round i)) ?_
    rintro e a2 w2 ⟨ae, s', F2, V2, rfl, hz, hs, hr, hk⟩
    cases ae with
    | normal =>
      obtain ⟨j, hj, hw⟩ := hk
      obtain ⟨F3, V3, s3, r3⟩ := hw.use r.fresh (s1.trans hs) hr
      have hIj : I a2 w2 j := ⟨F3, V3, s3, r3⟩
      refine ⟨⟨j, hIj⟩, ?_⟩
      have hex2 : ∃ n, M a2 w2 n := ⟨μ j, j, rfl, hIj⟩
      have hm2 : m a2 w2 = (least hex2).choose := dif_pos hex2
      rw [hm, hm2, ← hi]
      have : (least hex2).choose ≤ μ j := (least hex2).choose_spec.2 _ ⟨j, rfl, hIj⟩
      omega
    | exit n => exact ⟨.exit n, s', F2, V2, rfl, hz.trans (hsz i), s1.trans hs, hr, hk⟩
    | ret => exact ⟨.ret, s', F2, V2, rfl, hz.trans (hsz i), s1.trans hs, hr, hk⟩

theorem CallOK.ghost {K K' : AV → Heap → Nat → Prop} {f : FuncId} {args : List AV} {h : Heap} {nx : Nat} (c : CallOK P f args h nx K)
    (hK : ∀ a h' nx', K a h' nx' → ∃ a' h'' nx'', nx ≤ nx' ∧ Gh nx (fun _ => a) h' nx' (fun _ => a') h'' nx'' ∧ K' a' h'' nx'') : CallOK P f args h nx K' := by
  refine ⟨c.1, fun F V w vs hi hf hr => (c.2 F V w vs hi hf hr).mono ?_⟩
  rintro e w' ⟨v, F', V', a, h', nx', rfl, hs, hi', hf', hrep, hk⟩
  obtain ⟨a', h'', nx'', hle, hg, hk'⟩ := hK a h' nx' hk
  obtain ⟨_, hg⟩ := hg hle
  obtain ⟨F2, V2, q1, q2, q3, q4, q5, q6, q7⟩ := hg F' V' w' (fun _ => v) hi' hf' (fun _ => hrep)
  exact ⟨v, F2, V2, a', h'', nx'', rfl, hs.ghost hf q1 q2 q3 q4, q5, q6, q7 0, hk'⟩

theorem callOK {f : FuncId} {fn : Func} {N : Nat} {args : List AV} {h : Heap} {nx : Nat} {KK : AV → Heap → Nat → Prop} (hcall : ∀ (args : Array Value) (w : World), (callFunc f args).run P w = .ok (.enter f args) w)
    (hf : P.funcs[f]? = some fn) (hn : fn.ntmps = N) (hz : Nat.ble args.length N = true) (hh : holds P (fun _ _ => False) KK (body P fn N args h nx)) : CallOK P f args h nx KK :=
  callOK_of_body hcall hf (by have := Nat.le_of_ble_eq_true hz; omega) hh

theorem CallOK.mono {K K' : AV → Heap → Nat → Prop} {f : FuncId} {args : List AV} {h : Heap} {nx : Nat} (c : CallOK P f args h nx K) (hK : ∀ a h' nx', K a h' nx' → K' a h' nx') : CallOK P f args h nx K' := by
  refine ⟨c.1, fun F V w vs hi hf hr => (c.2 F V w vs hi hf hr).mono ?_⟩
  rintro e w' ⟨v, F', V', a, h', nx', rfl, hs, hi', hf', hrep, hk⟩
  exact ⟨v, F', V', a, h', nx', rfl, hs, hi', hf', hrep, hK _ _ _ hk⟩

/-- A heap written out ahead of going on. -/
def withHeap (h : Heap) (k : Heap → R) : R :=
  match h with
  | [] => k []
  | (i, o) :: r => match o with
    | .cells l => withCells l fun l => withHeap r fun r => k ((i, .cells l) :: r)
    | .tip s => withHeap r fun r => k ((i, .tip s) :: r)
    | .map es => withHeap r fun r => k ((i, .map es) :: r)
    | .ment es j s => withHeap r fun r => k ((i, .ment es j s) :: r)
    | .mapN es bs c => withHeap r fun r => k ((i, .mapN es bs c) :: r)
    | .iter m since seen last => withHeap r fun r => k ((i, .iter m since seen last) :: r)
    | .loop en kk ps as bo st => withHeap r fun r => k ((i, .loop en kk ps as bo st) :: r)

theorem withHeap_eq (h : Heap) (k : Heap → R) : withHeap h k = k h := by
  induction h generalizing k with
  | nil => rfl
  | cons p r ih =>
    obtain ⟨i, o⟩ := p
    cases o <;> simp [withHeap, withCells_eq, ih]

/-- Renaming, written out. -/
def rhoK (nx : Nat) (names : List Nat) (i : Nat) (k : Nat → R) : R :=
  match names with
  | [] => k (nx + i)
  | n :: r => match i with
    | 0 => k n
    | i + 1 => rhoK nx r i k

theorem rhoK_eq (nx : Nat) : ∀ (names : List Nat) (i : Nat) (k : Nat → R), rhoK nx names i k = k (rho nx names i)
  | [], i, k => rfl
  | n :: r, 0, k => rfl
  | n :: r, i + 1, k => rhoK_eq nx r i k

def renPK (nx : Nat) (names : List Nat) (p : Perm) (k : Perm → R) : R :=
  match p with
  | .none => k .none
  | .full => k .full
  | .zero => k .zero
  | .tok t s => rhoK nx names t fun t => k (.tok t s)

theorem renPK_eq (nx : Nat) (names : List Nat) (p : Perm) (k : Perm → R) : renPK nx names p k = k (renP (rho nx names) p) := by cases p <;> simp [renPK, renP, rhoK_eq]

def renK1 (nx : Nat) (names : List Nat) (a : AV) (k : AV → R) : R :=
  match a with
  | .ptr id off => rhoK nx names id fun id => k (.ptr id off)
  | .aptr id i => rhoK nx names id fun id => k (.aptr id i)
  | .sl p kk els => renPK nx names p fun p => k (.sl p kk (renL (rho nx names) els))
  | .arr id kk n => rhoK nx names id fun id => k (.arr id kk n)
  | .vec id kk n c => rhoK nx names id fun id => k (.vec id kk n c)
  | .map id => rhoK nx names id fun id => k (.map id)
  | .yld l => rhoK nx names l fun l => k (.yld l)
  | .ref v => k (.ref (ren (rho nx names) v))
  | .fn f l => k (.fn f (renL (rho nx names) l))
  | .iface t v => k (.iface t (ren (rho nx names) v))
  | .agg l => k (.agg (renL (rho nx names) l))
  | .tup l => k (.tup (renL (rho nx names) l))
  | a => force a k

theorem renK1_eq (nx : Nat) (names : List Nat) (a : AV) (k : AV → R) : renK1 nx names a k = k (ren (rho nx names) a) := by
  cases a <;> simp [renK1, ren, rhoK_eq, renPK_eq, force_eq]

def renLK (nx : Nat) (names : List Nat) (l : List AV) (k : List AV → R) : R :=
  match l with
  | [] => k []
  | a :: r => renK1 nx names a fun a => renLK nx names r fun r => k (a :: r)

theorem renLK_eq (nx : Nat) (names : List Nat) : ∀ (l : List AV) (k : List AV → R), renLK nx names l k = k (renL (rho nx names) l)
  | [], k => rfl
  | a :: r, k => by simp [renLK, renL, renK1_eq, renLK_eq nx names r]

def renK (nx : Nat) (names : List Nat) (a : AV) (k : AV → R) : R :=
  match a with
  | .agg l => renLK nx names l fun l => k (.agg l)
  | .tup l => renLK nx names l fun l => k (.tup l)
  | .fn f l => renLK nx names l fun l => k (.fn f l)
  | a => renK1 nx names a k

theorem renK_eq (nx : Nat) (names : List Nat) (a : AV) (k : AV → R) : renK nx names a k = k (ren (rho nx names) a) := by
  cases a <;> simp [renK, renLK_eq, renK1_eq, ren]

def renOK (nx : Nat) (names : List Nat) (o : AObj) (k : AObj → R) : R :=
  match o with
  | .cells l => renLK nx names l fun l => k (.cells l)
  | .tip s => k (.tip s)
  | .map es => k (.map (renE (rho nx names) es))
  | .ment es j s => k (.ment (renE (rho nx names) es) j s)
  | .mapN es bs c => k (.mapN (renE (rho nx names) es) bs c)
  | .iter m since seen last => k (.iter (rho nx names m) since seen last)
  | .loop en kk ps as bo st => k (.loop (renV (rho nx names) en) kk ps as bo st)

theorem renOK_eq (nx : Nat) (names : List Nat) (o : AObj) (k : AObj → R) : renOK nx names o k = k (renO (rho nx names) o) := by
  cases o <;> simp [renOK, renO, renLK_eq]

def keepK (nx : Nat) (names : List Nat) (h0 : Heap) (h : Heap) (k : Heap → R) : R :=
  match h with
  | [] => k []
  | (j, o) :: r => match idx j names with
    | some i => match get h0 i with
      | some o' => renOK nx names o' fun o' => keepK nx names h0 r fun r => k ((j, o') :: r)
      | none => keepK nx names h0 r k
    | none => keepK nx names h0 r fun r => k ((j, o) :: r)

theorem keepK_eq (nx : Nat) (names : List Nat) (h0 : Heap) : ∀ (h : Heap) (k : Heap → R), keepK nx names h0 h k = k (keepH nx names h0 h)
  | [], k => rfl
  | (j, o) :: r, k => by
    unfold keepK keepH
    cases idx j names with
    | none => exact keepK_eq nx names h0 r _
    | some i =>
      simp only
      cases get h0 i with
      | none => exact keepK_eq nx names h0 r k
      | some o' => simp only [renOK_eq]; exact keepK_eq nx names h0 r _

def newK (nx : Nat) (names : List Nat) (rest : Heap) (h0 : Heap) (k : Heap → R) : R :=
  match h0 with
  | [] => k rest
  | (i, o) :: r => bif Nat.blt i names.length then newK nx names rest r k else rhoK nx names i fun i => renOK nx names o fun o => newK nx names rest r fun r => k ((i, o) :: r)

theorem newK_eq (nx : Nat) (names : List Nat) (rest : Heap) : ∀ (h0 : Heap) (k : Heap → R), newK nx names rest h0 k = k (newH nx names rest h0)
  | [], k => rfl
  | (i, o) :: r, k => by
    unfold newK newH
    cases Nat.blt i names.length with
    | true => exact newK_eq nx names rest r k
    | false => simp only [cond_false, rhoK_eq, renOK_eq]; exact newK_eq nx names rest r _

def mergeK (nx : Nat) (names : List Nat) (h h0 : Heap) (k : Heap → R) : R := keepK nx names h0 h fun r => newK nx names r h0 k

theorem mergeK_eq (nx : Nat) (names : List Nat) (h h0 : Heap) (k : Heap → R) : mergeK nx names h h0 k = k (mergeH nx names h h0) := by
  unfold mergeK mergeH
  rw [keepK_eq, newK_eq]

theorem renL_u8s (ρ : Nat → Nat) (l : List UInt8) : renL ρ (u8s l) = u8s l := by
  induction l with
  | nil => rfl
  | cons c l ih =>
    show ren ρ (u8 c) :: renL ρ (u8s l) = u8 c :: u8s l
    rw [ih]; rfl

theorem ren_u8s (ρ : Nat → Nat) (p : Perm) (l : List UInt8) : ren ρ (.sl p 0 (u8s l)) = .sl (renP ρ p) 0 (u8s l) := by
  show AV.sl (renP ρ p) 0 (renL ρ (u8s l)) = _
  rw [renL_u8s]

theorem cut_ok {n nx : Nat} {p : Perm} {l : List UInt8} (h : renP (cut n nx) p = p) : ren (cut n nx) (.sl p 0 (u8s l)) = .sl p 0 (u8s l) := by rw [ren_u8s, h]

theorem Le.of_eq {h : Heap} {a b : AV} (e : a = b) : Le h a b := e ▸ Le.refl h a

/-- The size of what is appended. -/
theorem sizeOk {n b : Nat} (k : Nat) (hb : b = k) (h : n * k ≤ 140737488355328) : (n : Int) * (b : Int) ≤ 140737488355328 := by
  subst hb
  have : ((n * b : Nat) : Int) ≤ 140737488355328 := by omega
  simpa using this

/-- A call, by a contract: the caller's names of the contract's names given. -/
theorem holds_call {f : FuncId} {args args0 : List AV} {h h0 : Heap} {nx : Nat} {k : AV → Heap → Nat → R} {K0 : AV → Heap → Nat → Prop} (names : List Nat) (c : CallOK P f args0 h0 names.length K0)
    (hok : okNames nx names = true) (hsub : Sub nx names h h0) (hargs : args = renL (rho nx names) args0)
    (hk : ∀ a0 h0' m', K0 a0 h0' m' → holds P Q K (renK nx names a0 fun a => mergeK nx names h h0' fun h => k a h (nx + (m' - names.length)))) :
    holds P Q K (.call f args h nx k) :=
  c.frame hok hsub hargs fun a0 h0' m' hK0 => by
    have := hk a0 h0' m' hK0
    rw [renK_eq, mergeK_eq] at this
    exact this

/-- Told otherwise ahead of a call. -/
theorem CallOK.pre {K : AV → Heap → Nat → Prop} {f : FuncId} {args args' : List AV} {h h' : Heap} {nx nx' : Nat} (hg : Gh nx (fun i => args.getD i .top) h nx (fun i => args'.getD i .top) h' nx') (hl : args'.length = args.length)
    (c : CallOK P f args' h' nx' K) : CallOK P f args h nx K := by
  refine ⟨c.1, fun F V w vs hi hf hr => ?_⟩
  obtain ⟨_, hg⟩ := hg (Nat.le_refl _)
  have hlen := hr.length
  obtain ⟨F', V', q1, q2, q3, q4, q5, q6, q7⟩ := hg F V w (fun i => vs.getD i undef) hi hf (fun i => by
    simp only [List.getD_eq_getElem?_getD]
    cases ha : args[i]? with
    | none => simp [rep]
    | some a => obtain ⟨x, hx, r⟩ := hr.get i a ha; rw [hx]; exact r)
  have hr' : repL F' V' args' vs := repL.of_get (by omega) fun i a x ha hx => by
    have := q7 i
    simp only [List.getD_eq_getElem?_getD, ha, hx, Option.getD_some] at this
    exact this
  refine (c.2 F' V' w vs q5 q6 hr').mono ?_
  rintro e w' ⟨v, F2, V2, a, h2, nx2, rfl, hs, hi2, hf2, hrep, hk⟩
  exact ⟨v, F2, V2, a, h2, nx2, rfl, ((Step.refl F V h w).ghost hf q1 q2 q3 q4).trans hs, hi2, hf2, hrep, hk⟩

theorem holds_pre {f : FuncId} {args args' : List AV} {h h' : Heap} {nx nx' : Nat} {k : AV → Heap → Nat → R} (hg : Gh nx (fun i => args.getD i .top) h nx (fun i => args'.getD i .top) h' nx') (hl : args'.length = args.length)
    (hh : holds P Q K (.call f args' h' nx' k)) : holds P Q K (.call f args h nx k) := CallOK.pre hg hl hh

def ArgsLe (h : Heap) : List AV → List AV → Prop
  | [], [] => True
  | a :: l, b :: m => Le h a b ∧ ArgsLe h l m
  | _, _ => False

theorem ArgsLe.get {h : Heap} : ∀ {l m : List AV}, ArgsLe h l m → ∀ i, Le h (l.getD i .top) (m.getD i .top)
  | [], [], _, i => Le.refl _ _
  | a :: l, b :: m, ⟨h1, h2⟩, 0 => h1
  | a :: l, b :: m, ⟨h1, h2⟩, i + 1 => by simpa using ArgsLe.get h2 i
theorem ArgsLe.length {h : Heap} : ∀ {l m : List AV}, ArgsLe h l m → m.length = l.length
  | [], [], _ => rfl
  | a :: l, b :: m, ⟨_, h2⟩ => by simp [ArgsLe.length h2]

/-- Arguments told otherwise. -/
theorem holds_args {f : FuncId} {args args' : List AV} {h : Heap} {nx : Nat} {k : AV → Heap → Nat → R} (hl : ArgsLe h args args')
    (hh : holds P Q K (.call f args' h nx k)) : holds P Q K (.call f args h nx k) :=
  holds_pre (Gh.le (ArgsLe.get hl) fun id o hg => ⟨o, hg, LeO.refl _ _⟩) hl.length hh

/-- What holds outright holds under a condition. -/
theorem ctxP_of {rs : RS} {full : List (Nat × Bool)} {c : Prop} (h : c) : ∀ {l : List (Nat × Bool)}, ctxP rs full c l
  | [] => h
  | (s, w) :: r => by
    unfold ctxP
    split
    · rename_i cs b _
      cases subCtx rs full cs with
      | true => exact fun _ => ctxP_of h
      | false => exact ctxP_of h
    · exact ctxP_of h

/-- A contract whose answer is told outright. -/
abbrev Out (a : AV) (h : Heap) (m : Nat) : AV → Heap → Nat → Prop := fun a' h' m' => a' = a ∧ h' = h ∧ m' = m

theorem holds_out {f : FuncId} {args args0 : List AV} {h h0 : Heap} {nx : Nat} {k : AV → Heap → Nat → R} {a1 : AV} {h1 : Heap} {m1 : Nat} (names : List Nat) (c : CallOK P f args0 h0 names.length (Out a1 h1 m1))
    (hok : okNames nx names = true) (hsub : Sub nx names h h0) (hargs : args = renL (rho nx names) args0)
    (hk : holds P Q K (renK nx names a1 fun a => mergeK nx names h h1 fun h => k a h (nx + (m1 - names.length)))) :
    holds P Q K (.call f args h nx k) :=
  holds_call names c hok hsub hargs fun a0 h0' m' ⟨e1, e2, e3⟩ => by subst e1; subst e2; subst e3; exact hk

theorem CallOK.told {f : FuncId} {args : List AV} {h : Heap} {nx : Nat} {a a' : AV} {h1 h1' : Heap} {m m' : Nat} (c : CallOK P f args h nx (Out a h1 m)) (hle : nx ≤ m) (hg : Gh nx (fun _ => a) h1 m (fun _ => a') h1' m') : CallOK P f args h nx (Out a' h1' m') :=
  c.ghost fun x y z ⟨e1, e2, e3⟩ => by subst e1; subst e2; subst e3; exact ⟨a', h1', m', hle, hg, rfl, rfl, rfl⟩

theorem fin_exit {ι : Type} {m : Nat} {inv : ι → St} {μ : ι → Nat} {i : ι} {n : Nat} {s : St} (h : Q (.exit n) s) : holds P (RoundG m inv μ Q i) K (.fin (.exit n) s) := h
theorem fin_ret {ι : Type} {m : Nat} {inv : ι → St} {μ : ι → Nat} {i : ι} {s : St} (h : Q .ret s) : holds P (RoundG m inv μ Q i) K (.fin .ret s) := h
theorem fin_next {ι : Type} {m : Nat} {inv : ι → St} {μ : ι → Nat} {i : ι} {s : St} (h : ∃ j, μ j < μ i ∧ WkG m s (inv j)) : holds P (RoundG m inv μ Q i) K (.fin .normal s) := h

theorem ret_in {a : AV} {h : Heap} {nx : Nat} (hk : K a h nx) : holds P Q K (.ret a h nx) := hk

/-- The ranges over functions in code, in order. -/
def rfs : Code → List (List Nat × Code × Code)
  | .seq a b => rfs a ++ rfs b
  | .cond _ a b => rfs a ++ rfs b
  | .block _ b => rfs b
  | .loop b => rfs b
  | .scope b => rfs b
  | .rangeFunc _ ps a b => (ps.toList, a, b) :: rfs b
  | _ => []
def rfN (fn : Func) (i : Nat) : List Nat × Code × Code :=
  match fn.body with
  | some c => match (rfs c)[i]? with
    | some x => x
    | none => ([], .skip, .skip)
  | none => ([], .skip, .skip)
/-- A record of the i-th range over a function in a function. -/
abbrev loopOf (fn : Func) (i : Nat) (en : List (Nat × AV)) (k : Nat) (st : LSt) : AObj := .loop en k (rfN fn i).1 (rfN fn i).2.1 (rfN fn i).2.2 st

/-- An answer that may be told so. -/
abbrev OutLe (a : AV) (h : Heap) (m : Nat) : AV → Heap → Nat → Prop := fun a' h' m' => Le h' a' a ∧ h' = h ∧ m' = m

theorem CallOK.le {f : FuncId} {args : List AV} {h : Heap} {nx : Nat} {a : AV} {h1 : Heap} {m : Nat} (c : CallOK P f args h nx (OutLe a h1 m)) (hle : nx ≤ m := by decide) : CallOK P f args h nx (Out a h1 m) :=
  c.ghost fun x y z ⟨e1, e2, e3⟩ => by subst e2; subst e3; exact ⟨a, _, _, hle, Gh.le (fun _ => e1) (fun id o hg => ⟨o, hg, LeO.refl _ _⟩), rfl, rfl, rfl⟩

theorem Le.of_eq' {h : Heap} {a b : AV} (e : a = b) : Le h a b := e ▸ Le.refl h a

/-- Slots that are known, by list. -/
def EnvLe (h : Heap) (env : List (Nat × AV)) : List (Nat × AV) → Prop
  | [] => True
  | (t, v) :: r => Le h (look env t) v ∧ EnvLe h env r

theorem EnvLe.le {h : Heap} {env : List (Nat × AV)} : ∀ {env' : List (Nat × AV)}, EnvLe h env env' → ∀ t, Le h (look env t) (look env' t)
  | [], _, t => Le.top _ _
  | (i, v) :: r, hh, t => by
    rw [look_cons]
    by_cases e : t = i
    · subst e; simp only [if_true]; exact hh.1
    · simp only [if_neg e]; exact EnvLe.le hh.2 t

theorem LeO.loop {h : Heap} {en en' : List (Nat × AV)} {kk : Nat} {ps ps' : List Nat} {as as' bo bo' : Code} {st : LSt} (he : EnvLe h en en') (e1 : ps = ps') (e2 : as = as') (e3 : bo = bo') : LeO h (.loop en kk ps as bo st) (.loop en' kk ps' as' bo' st) :=
  ⟨he.le, rfl, e1, e2, e3, rfl⟩

def HeapLe (h : Heap) : Heap → Prop
  | [] => True
  | (id, o) :: r => (∃ o0, get h id = some o0 ∧ LeO h o0 o) ∧ HeapLe h r

theorem HeapLe.le {h : Heap} : ∀ {h' : Heap}, HeapLe h h' → ∀ id o', get h' id = some o' → ∃ o, get h id = some o ∧ LeO h o o'
  | [], _, id, o', hg => by simp [get] at hg
  | (j, o) :: r, hh, id, o', hg => by
    rw [get_cons'] at hg
    by_cases e : j = id
    · subst e
      simp only [if_true, Option.some.injEq] at hg
      subst hg
      exact hh.1
    · simp only [if_neg e] at hg
      exact HeapLe.le hh.2 id o' hg

/-- Names at n and above are borne by nothing. -/
def EnvCut (n nx : Nat) : List (Nat × AV) → Prop
  | [] => True
  | (_, v) :: r => ren (cut n nx) v = v ∧ EnvCut n nx r
def HeapCut (n nx : Nat) : Heap → Prop
  | [] => True
  | (id, o) :: r => (id < n ∧ renO (cut n nx) o = o) ∧ HeapCut n nx r

theorem EnvCut.look {n nx : Nat} : ∀ {env : List (Nat × AV)}, EnvCut n nx env → ∀ t, ren (cut n nx) (look env t) = look env t
  | [], _, t => rfl
  | (i, v) :: r, hh, t => by
    rw [look_cons]
    by_cases e : t = i
    · subst e; simp only [if_true]; exact hh.1
    · simp only [if_neg e]; exact EnvCut.look hh.2 t
theorem HeapCut.get {n nx : Nat} : ∀ {h : Heap}, HeapCut n nx h → ∀ id o, Go.Sym.get h id = some o → id < n ∧ renO (cut n nx) o = o
  | [], _, id, o, hg => by simp [Go.Sym.get] at hg
  | (j, x) :: r, hh, id, o, hg => by
    rw [get_cons'] at hg
    by_cases e : j = id
    · subst e
      simp only [if_true, Option.some.injEq] at hg
      subst hg
      exact hh.1
    · simp only [if_neg e] at hg
      exact HeapCut.get hh.2 id o hg

/-- A loop's next state: known slots, known objects; names at n' and above dropped. -/
theorem WkG.of {n n' : Nat} {env env' : List (Nat × AV)} {h h' : Heap} {nx : Nat} {sz : Sz} (hn : Nat.ble n nx = true) (hn' : Nat.ble n n' = true) (he : EnvLe h env env') (hh : HeapLe h h') (hc : EnvCut n' nx env') (hd : HeapCut n' nx h') : WkG n ⟨env, h, nx, sz⟩ ⟨env', h', n', sz⟩ :=
  ⟨Nat.le_of_ble_eq_true hn, rfl, (Gh.le he.le hh.le).trans (Gh.drop (Nat.le_of_ble_eq_true hn') hc.look hd.get)⟩

/-- The same, with a token for a nil slice. -/
theorem WkG.tok {n n' : Nat} {env env' : List (Nat × AV)} {h h' : Heap} {nx : Nat} {sz : Sz} (hn : Nat.ble n nx = true) (hn' : Nat.ble n n' = true) (he : EnvLe ((nx, .tip 0) :: h) env env') (hh : HeapLe ((nx, .tip 0) :: h) h') (hc : EnvCut n' (nx + 1) env') (hd : HeapCut n' (nx + 1) h') : WkG n ⟨env, h, nx, sz⟩ ⟨env', h', n', sz⟩ :=
  ⟨Nat.le_of_ble_eq_true hn, rfl, (Gh.token n _ _ _).trans ((Gh.le he.le hh.le).trans (Gh.drop (Nat.le_of_ble_eq_true hn') hc.look hd.get))⟩

/-- An answer told otherwise, names dropped. -/
theorem CallOK.less {f : FuncId} {args : List AV} {h : Heap} {nx : Nat} {a a' : AV} {h1 h1' : Heap} {m m' : Nat} (c : CallOK P f args h nx (Out a h1 m)) (hle : nx ≤ m) (hle' : nx ≤ m') (ha : Le h1 a a') (hh : HeapLe h1 h1') (hc : ren (cut m' m) a' = a') (hd : HeapCut m' m h1') : CallOK P f args h nx (Out a' h1' m') :=
  c.told hle ((Gh.le (fun _ => ha) hh.le).trans (Gh.drop hle' (fun _ => hc) hd.get))

/-- An answer that may be told so, names dropped. -/
def Fit (nx : Nat) (a' : AV) (h1 : Heap) (m1 : Nat) : AV → Heap → Nat → Prop := fun a h m => nx ≤ m ∧ Le h a a' ∧ HeapLe h h1 ∧ ren (cut m1 m) a' = a' ∧ HeapCut m1 m h1

theorem CallOK.fit {f : FuncId} {args : List AV} {h : Heap} {nx : Nat} {a' : AV} {h1 : Heap} {m1 : Nat} (hle : nx ≤ m1) (c : CallOK P f args h nx (Fit nx a' h1 m1)) : CallOK P f args h nx (Out a' h1 m1) :=
  c.ghost fun a h m ⟨q0, q1, q2, q3, q4⟩ => ⟨a', h1, m1, q0, (Gh.le (fun _ => q1) q2.le).trans (Gh.drop hle (fun _ => q3) q4.get), rfl, rfl, rfl⟩

end
end Go.Sym

namespace Go.Sym

def isElem (k : Nat) (x : AV) (cs : List AV) : Prop := if k = 0 then cs = [x] else x = .agg cs

/-- Do the fields lie one behind the other? -/
def tile (P : Program) : List Field → Nat → Nat → Bool
  | [], off, n => Nat.beq off n
  | f :: fs, off, n => Nat.beq f.offset off && tile P fs (off + P.cellsOf f.type) n

def goodFields (G : TypeId → List AV → Prop) : List Field → List AV → Prop
  | [], l => l = []
  | f :: fs, l => ∃ a b, l = a ++ b ∧ G f.type a ∧ goodFields G fs b

/-- Is every cell of the type one of its fields'? -/
def ones (P : Program) : Nat → TypeId → Bool
  | 0, _ => false
  | n + 1, t => match P.underlying t with
    | some (.struct fs) => tile P fs.toList 0 (P.cellsOf t) && fs.toList.all fun f => ones P n f.type
    | some (.array _ _) | none => false
    | _ => true

theorem addr0 (a : Addr) : a.add 0 = a := by simp [Addr.add]

/-- What the cells of a value of a type, that a row reads, are. -/
def Good (P : Program) : Nat → TypeId → List AV → Prop
  | 0, _, _ => False
  | n + 1, t, l => match P.underlying t with
    | some (.int k) => ∃ x, l = [.int k x] ∧ (Lit.int k x).wf = true
    | some .bool => ∃ b, l = [.bl b]
    | some .string => ∃ s, l = [.str s] ∧ s.length ≤ reachBytes
    | some (.slice e) => ∀ k, kindT P e = some k → ones P 8 e = true → ∃ els, l = [.sl .none k els] ∧ els.length * P.bytesOf e ≤ reachBytes ∧ ∀ x ∈ els, ∃ cs, isElem k x cs ∧ Good P n e cs
    | some (.struct fs) => tile P fs.toList 0 (P.cellsOf t) = true → goodFields (Good P n) fs.toList l
    | _ => True

def F0 (W : World) : Fix := fun b o => W.cell? ⟨b, o, none⟩
def V0 : View := ⟨fun _ => none, fun _ => none⟩

theorem repL_tops {F : Fix} {V : View} : ∀ (cs : List Value), repL F V (cs.map fun _ => .top) cs
  | [] => by simp [repL]
  | c :: cs => by simp only [List.map_cons, repL]; exact ⟨c, cs, rfl, by simp [rep], repL_tops cs⟩

section
variable {H : Type} {enc : TypeId × Value → H} {P : Program} {W : World}

theorem cells_one_of {n : Nat} {t : TypeId} {cs : List Value} {x : DataW H × List MemPlace} (h : DataW.trod enc P W 0 (fun _ => true) true n t cs = some x) (ho : isAggT P t = some false) : ∃ c, cs = [c] ∧ c.oneCell' = true := by
  cases n with
  | zero => simp [DataW.trod] at h
  | succ n =>
    unfold DataW.trod at h
    unfold isAggT at ho
    split at h <;> simp_all [Value.oneCell']

theorem fields_ones {m n : Nat} (ih : ∀ (t : TypeId) (cs : List Value) (x : DataW H × List MemPlace), DataW.trod enc P W 0 (fun _ => true) true n t cs = some x → ones P m t = true → ∀ c ∈ cs, c.oneCell' = true) (cs : List Value) :
    ∀ (fs : List Field) (off : Nat) (xs : List (DataW H × List MemPlace)), tile P fs off cs.length = true → (fs.all fun f => ones P m f.type) = true → xs.length = fs.length →
      (∀ (i : Nat) (f : Field), fs[i]? = some f → DataW.trod enc P W 0 (fun _ => true) true n f.type ((cs.drop f.offset).take (P.cellsOf f.type)) = xs[i]?) → ∀ c ∈ cs.drop off, c.oneCell' = true
  | [], off, xs, ht, _, hl, hh => by
    simp only [tile] at ht
    have := Nat.eq_of_beq_eq_true ht
    subst this
    simp
  | f :: fs, off, xs, ht, ha, hl, hh => by
    cases xs with
    | nil => simp at hl
    | cons x xs =>
    simp only [tile, Bool.and_eq_true] at ht
    simp only [List.all_cons, Bool.and_eq_true] at ha
    have ho := Nat.eq_of_beq_eq_true ht.1
    have h0 := hh 0 f rfl
    rw [ho] at h0
    have e : cs.drop off = (cs.drop off).take (P.cellsOf f.type) ++ cs.drop (off + P.cellsOf f.type) := by
      rw [← List.drop_drop, List.take_append_drop]
    rw [e]
    intro c hc
    rcases List.mem_append.1 hc with hc | hc
    · exact ih _ _ x h0 ha.1 c hc
    · exact fields_ones ih cs fs (off + P.cellsOf f.type) xs ht.2 ha.2 (by simpa using hl) (fun i g hg => by simpa using hh (i + 1) g (by simpa using hg)) c hc

theorem trod_ones : ∀ (m n : Nat) (t : TypeId) (cs : List Value) (x : DataW H × List MemPlace), DataW.trod enc P W 0 (fun _ => true) true n t cs = some x → ones P m t = true → ∀ c ∈ cs, c.oneCell' = true
  | _, 0, t, cs, x, h, _ => by simp [DataW.trod] at h
  | 0, _, t, cs, x, _, ho => by simp [ones] at ho
  | m + 1, n + 1, t, cs, x, h, ho => by
    cases hu : P.underlying t with
    | none => simp [ones, hu] at ho
    | some u =>
    have one : isAggT P t = some false → ∀ c ∈ cs, c.oneCell' = true := fun hg => by
      obtain ⟨c, rfl, hc⟩ := cells_one_of h hg
      simpa using hc
    cases u with
    | struct fs =>
      obtain ⟨xs, m', hm, rfl, hl, hx, hh⟩ := DataW.trod_struct hu h
      cases hm
      simp only [ones, hu, Bool.and_eq_true] at ho
      have := fields_ones (trod_ones m n) cs fs.toList 0 xs (by rw [hl]; exact ho.1) ho.2 (by simpa using hx) (fun i f hf => hh i f (by simpa using hf))
      simpa using this
    | array _ _ => simp [ones, hu] at ho
    | _ => exact one (by simp [isAggT, hu])

theorem fields_good {n : Nat} {V : View} (ih : ∀ (t : TypeId) (cs : List Value) (x : DataW H × List MemPlace), DataW.trod enc P W 0 (fun _ => true) true n t cs = some x → (∀ m ∈ x.1.weights P t, m ≤ reachBytes) → ∃ l, repL (F0 W) V l cs ∧ Good P n t l) (cs : List Value) :
    ∀ (fs : List Field) (off : Nat) (xs : List (DataW H × List MemPlace)), tile P fs off cs.length = true → xs.length = fs.length →
      (∀ (i : Nat) (f : Field), fs[i]? = some f → DataW.trod enc P W 0 (fun _ => true) true n f.type ((cs.drop f.offset).take (P.cellsOf f.type)) = xs[i]?) →
      (∀ m ∈ DataW.weightsEach P (fs.map (·.type)) (xs.map (·.1)), m ≤ reachBytes) → ∃ l, repL (F0 W) V l (cs.drop off) ∧ goodFields (Good P n) fs l
  | [], off, xs, ht, hl, hh, hw => by
    simp only [tile] at ht
    have := Nat.eq_of_beq_eq_true ht
    subst this
    exact ⟨[], by simp [repL], rfl⟩
  | f :: fs, off, xs, ht, hl, hh, hw => by
    cases xs with
    | nil => simp at hl
    | cons x xs =>
    simp only [tile, Bool.and_eq_true] at ht
    have ho := Nat.eq_of_beq_eq_true ht.1
    simp only [List.map_cons, DataW.weightsEach, List.mem_append] at hw
    have h0 := hh 0 f rfl
    rw [ho] at h0
    obtain ⟨a, ha, ga⟩ := ih _ _ x h0 fun m hm => hw m (.inl hm)
    obtain ⟨b, hb, gb⟩ := fields_good ih cs fs (off + P.cellsOf f.type) xs ht.2 (by simpa using hl) (fun i g hg => by simpa using hh (i + 1) g (by simpa using hg)) fun m hm => hw m (.inr hm)
    refine ⟨a ++ b, ?_, a, b, rfl, ga, gb⟩
    have e : cs.drop off = (cs.drop off).take (P.cellsOf f.type) ++ cs.drop (off + P.cellsOf f.type) := by
      rw [← List.drop_drop, List.take_append_drop]
    rw [e]
    exact ha.append hb

theorem weightsAll_mem {e : TypeId} : ∀ {l : List (DataW H)} {d : DataW H}, d ∈ l → ∀ m ∈ d.weights P e, m ∈ DataW.weightsAll P e l
  | d0 :: l, d, hd, m, hm => by
    simp only [DataW.weightsAll, List.mem_append]
    rcases List.mem_cons.1 hd with rfl | hd
    · exact .inl hm
    · exact .inr (weightsAll_mem hd m hm)

theorem trod_good {V : View} : ∀ (n : Nat) (t : TypeId) (cs : List Value) (x : DataW H × List MemPlace), DataW.trod enc P W 0 (fun _ => true) true n t cs = some x → (∀ m ∈ x.1.weights P t, m ≤ reachBytes) →
    ∃ l, repL (F0 W) V l cs ∧ Good P n t l
  | 0, t, cs, x, h, _ => by simp [DataW.trod] at h
  | n + 1, t, cs, x, h, hw => by
    cases hu : P.underlying t with
    | none => exact ⟨_, repL_tops cs, by simp [Good, hu]⟩
    | some u =>
    cases u with
    | int k =>
      obtain ⟨z, rfl, rfl, hz⟩ := DataW.trod_int hu h
      exact ⟨[.int k z], by simp [repL, rep], by simp [Good, hu, hz]⟩
    | bool =>
      obtain ⟨z, rfl, rfl⟩ := DataW.trod_bool hu h
      exact ⟨[.bl z], by simp [repL, rep], by simp [Good, hu]⟩
    | string =>
      obtain ⟨s, rfl, rfl, hs⟩ := DataW.trod_string hu h
      refine ⟨[.str s.data.toList], by simp [repL, rep], ?_⟩
      simp only [Good, hu]
      exact ⟨_, rfl, hw _ (by simp [DataW.weights])⟩
    | struct fs =>
      by_cases ht : tile P fs.toList 0 (P.cellsOf t) = true
      · obtain ⟨xs, m, hm, rfl, hl, hx, hh⟩ := DataW.trod_struct hu h
        cases hm
        simp only [DataW.weights, hu] at hw
        obtain ⟨l, hr, hg⟩ := fields_good (trod_good n) cs fs.toList 0 xs (by rw [hl]; exact ht) (by simpa using hx) (fun i f hf => hh i f (by simpa using hf)) hw
        refine ⟨l, by simpa using hr, ?_⟩
        simp only [Good, hu]
        exact fun _ => hg
      · refine ⟨_, repL_tops cs, ?_⟩
        simp only [Good, hu]
        exact fun h => absurd h ht
    | slice e =>
      cases hk : kindT P e with
      | none =>
        refine ⟨_, repL_tops cs, ?_⟩
        simp only [Good, hu]
        intro k hk'
        rw [hk] at hk'; cases hk'
      | some k =>
      by_cases hon : ones P 8 e = true
      case neg =>
        refine ⟨_, repL_tops cs, ?_⟩
        simp only [Good, hu]
        exact fun k _ h => absurd h hon
      obtain ⟨hsz, hag⟩ := kindT_size hk
      have hce : P.cellsOf e = width k := by
        unfold sizeT at hsz
        unfold Program.cellsOf
        cases hi : P.info? e with
        | none => simp [hi] at hsz
        | some i => simp [hi] at hsz; simp [hsz]
      have hwd : 0 < width k := by unfold width; split <;> omega
      rcases DataW.trod_slice hu h with ⟨rfl, rfl⟩ | ⟨a, len, cap, elems, rest, m, hm, rfl, rfl, -, hlc, -, hlen, hel, hsp, -⟩
      · refine ⟨[.sl .none k []], ?_, ?_⟩
        · simp only [repL, rep]
          exact ⟨_, _, rfl, .inr ⟨trivial, ⟨none, rfl⟩, trivial⟩, rfl⟩
        · simp only [Good, hu]
          intro k' hk' _
          rw [hk] at hk'; cases hk'
          exact ⟨[], rfl, by simp, fun x hx => by cases hx⟩
      · cases hm
        simp only [DataW.weights, hu, List.mem_cons, List.mem_append] at hw
        have hbytes : len * P.bytesOf e ≤ reachBytes := by
          have := hw _ (.inl rfl)
          simp only [List.length_map, hlen] at this
          exact Nat.le_trans (Nat.mul_le_mul_right _ (Nat.le_add_right _ _)) this
        by_cases hc0 : cap = 0
        · obtain rfl : len = 0 := by omega
          subst hc0
          refine ⟨[.sl .none k []], ?_, ?_⟩
          · simp only [repL, rep]
            exact ⟨_, _, rfl, .inr ⟨trivial, ⟨some a, rfl⟩, trivial⟩, rfl⟩
          · simp only [Good, hu]
            intro k' hk' _
            rw [hk] at hk'; cases hk'
            exact ⟨[], rfl, by simp, fun x hx => by cases hx⟩
        · obtain ⟨hr1, hr2⟩ := hsp rfl
          have hspot : a.spot = none := by
            have : ∃ cs', W.cells? 0 a (P.cellsOf e) = some cs' := by
              by_cases hl0 : len = 0
              · have := hr2 0 (by omega)
                subst hl0
                obtain ⟨y, hy⟩ : ∃ y, rest[0]? = some y := ⟨_, List.getElem?_eq_getElem (by omega)⟩
                rw [hy] at this
                simp only [Nat.zero_add, Nat.zero_mul, addr0] at this
                obtain ⟨cs', h1, -⟩ := Option.bind_eq_some_iff.1 this
                exact ⟨cs', h1⟩
              · have := hel 0 (by omega)
                obtain ⟨y, hy⟩ : ∃ y, elems[0]? = some y := ⟨_, List.getElem?_eq_getElem (by omega)⟩
                rw [hy] at this
                simp only [Nat.zero_mul, addr0] at this
                obtain ⟨cs', h1, -⟩ := Option.bind_eq_some_iff.1 this
                exact ⟨cs', h1⟩
            obtain ⟨cs', hcs⟩ := this
            obtain ⟨-, hl', hc'⟩ := World.cells?_some hcs
            have h0 := hc' 0 (by omega)
            rw [addr0] at h0
            obtain ⟨y, hy⟩ : ∃ y, cs'[0]? = some y := ⟨_, List.getElem?_eq_getElem (by omega)⟩
            rw [hy] at h0
            unfold World.cell? at h0
            split at h0
            · split at h0
              · cases h0
              · rename_i hn
                simpa using hn
            · cases h0
          obtain ⟨b, o, sp⟩ := a
          simp only at hspot
          subst hspot
          have key : ∀ m, m ≤ len → ∃ els vs, els.length = m ∧ repL (F0 W) V els vs ∧ (∀ y ∈ vs, elemOk k y) ∧ FixedAt (F0 W) b o (flat vs) ∧ ∀ y ∈ els, ∃ cs, isElem k y cs ∧ Good P n e cs := by
            intro m
            induction m with
            | zero => exact fun _ => ⟨[], [], rfl, by simp [repL], by simp, by intro j y hy; simp [flat] at hy, by simp⟩
            | succ m ihm =>
              intro hm
              obtain ⟨els, vs, hl, hr, he, hf, hg⟩ := ihm (by omega)
              obtain ⟨y, hy⟩ : ∃ y, elems[m]? = some y := ⟨_, List.getElem?_eq_getElem (by omega)⟩
              have hm' := hel m (by omega)
              rw [hy] at hm'
              obtain ⟨cs', h1, h2⟩ := Option.bind_eq_some_iff.1 hm'
              obtain ⟨-, hl', hc'⟩ := World.cells?_some h1
              obtain ⟨l, hlr, hlg⟩ := trod_good (V := V) n e cs' y h2 fun z hz => hw z (.inr (.inl (weightsAll_mem (List.mem_map_of_mem (List.mem_of_getElem? hy)) z hz)))
              have hvl : vs.length = m := by rw [← hr.length]; exact hl
              have fin : ∀ (ae : AV) (v : Value), rep (F0 W) V ae v → elemOk k v → v.cells.toList = cs' → isElem k ae l → ∃ els vs, els.length = m + 1 ∧ repL (F0 W) V els vs ∧ (∀ y ∈ vs, elemOk k y) ∧ FixedAt (F0 W) b o (flat vs) ∧ ∀ y ∈ els, ∃ cs, isElem k y cs ∧ Good P n e cs := by
                intro ae v hrep hek hcs hie
                refine ⟨els ++ [ae], vs ++ [v], by simp [hl], hr.append (by simp only [repL]; exact ⟨v, [], rfl, hrep, rfl⟩), ?_, ?_, ?_⟩
                · intro y hy
                  rcases List.mem_append.1 hy with hy | hy
                  · exact he y hy
                  · rw [List.mem_singleton] at hy; subst hy; exact hek
                · rw [flat_append]
                  refine fixedAt_append hf ?_
                  rw [flat_length he, hvl]
                  intro j z hz
                  simp only [flat, List.flatMap_cons, List.flatMap_nil, List.append_nil, hcs] at hz
                  have hj : j < cs'.length := by
                    rcases Nat.lt_or_ge j cs'.length with h' | h'
                    · exact h'
                    · simp [List.getElem?_eq_none h'] at hz
                  have := hc' j (by omega)
                  rw [hz, hce, Addr.add_lit, Addr.add_lit] at this
                  exact this
                · intro y hy
                  rcases List.mem_append.1 hy with hy | hy
                  · exact hg y hy
                  · rw [List.mem_singleton] at hy; subst hy; exact ⟨l, hie, hlg⟩
              by_cases hk0 : k = 0
              · subst hk0
                obtain ⟨c, rfl, hone⟩ := cells_one_of h2 (by simpa using hag)
                cases l with
                | nil => simp [repL] at hlr
                | cons ae l =>
                simp only [repL] at hlr
                obtain ⟨z, r, hzr, hz, hnil⟩ := hlr
                cases hzr
                cases l with
                | cons _ _ => simp [repL] at hnil
                | nil =>
                exact fin ae c hz (by simp [elemOk, hone]) (by rw [cells_one hone]) (by simp [isElem])
              · have hones : ∀ c ∈ cs', c.oneCell' = true := trod_ones 8 n e cs' y h2 hon
                refine fin (.agg l) (.agg cs'.toArray) ?_ ?_ (by simp [Value.cells]) (by simp [isElem, hk0])
                · simp only [rep]
                  exact ⟨cs', rfl, hlr, hones⟩
                · simp only [elemOk, hk0, if_false]
                  exact ⟨_, rfl, by simp only [List.size_toArray]; rw [hl', hce]; simp [width, hk0], by simpa using hones⟩
          obtain ⟨els, vs, hl, hr, he, hf, hg⟩ := key len (Nat.le_refl _)
          refine ⟨[.sl .none k els], ?_, ?_⟩
          · simp only [repL, rep]
            refine ⟨_, _, rfl, .inl ⟨b, o, cap, vs, ?_, hr, he, hf, ?_⟩, rfl⟩
            · rw [← hr.length, hl]
            · simp only [permOk]
              rw [← hr.length, hl]; exact hlc
          · simp only [Good, hu]
            intro k' hk' _
            rw [hk] at hk'; cases hk'
            exact ⟨els, rfl, by rw [hl]; exact hbytes, hg⟩
    | _ => exact ⟨_, repL_tops cs, by simp [Good, hu]⟩

theorem Good.int {n : Nat} {t : TypeId} {l : List AV} {k : IntKind} (hu : P.underlying t = some (.int k)) (g : Good P n t l) : ∃ x, l = [.int k x] ∧ (Lit.int k x).wf = true := by
  cases n with
  | zero => exact g.elim
  | succ n => simpa only [Good, hu] using g
theorem Good.bool {n : Nat} {t : TypeId} {l : List AV} (hu : P.underlying t = some .bool) (g : Good P n t l) : ∃ b, l = [.bl b] := by
  cases n with
  | zero => exact g.elim
  | succ n => simpa only [Good, hu] using g
theorem Good.str {n : Nat} {t : TypeId} {l : List AV} (hu : P.underlying t = some .string) (g : Good P n t l) : ∃ s, l = [.str s] ∧ s.length ≤ reachBytes := by
  cases n with
  | zero => exact g.elim
  | succ n => simpa only [Good, hu] using g
theorem Good.slice {n : Nat} {t e : TypeId} {l : List AV} {k : Nat} (hu : P.underlying t = some (.slice e)) (hk : kindT P e = some k) (ho : ones P 8 e = true) (g : Good P n t l) :
    ∃ els, l = [.sl .none k els] ∧ els.length * P.bytesOf e ≤ reachBytes ∧ ∀ x ∈ els, ∃ m cs, isElem k x cs ∧ Good P m e cs := by
  cases n with
  | zero => exact g.elim
  | succ n =>
    simp only [Good, hu] at g
    obtain ⟨els, h1, h2, h3⟩ := g k hk ho
    exact ⟨els, h1, h2, fun x hx => ⟨n, h3 x hx⟩⟩
theorem Good.struct {n : Nat} {t : TypeId} {l : List AV} {fs : Array Field} (hu : P.underlying t = some (.struct fs)) (ho : tile P fs.toList 0 (P.cellsOf t) = true) (g : Good P n t l) : ∃ m, goodFields (Good P m) fs.toList l := by
  cases n with
  | zero => exact g.elim
  | succ n =>
    simp only [Good, hu] at g
    exact ⟨n, g ho⟩

/-- An argument of a row, of a type of one cell or a struct. -/
theorem arg_good {V : View} {t : TypeId} {v : Value} {d : DataW H} {ps : List MemPlace} (h : DataW.Trod enc P W 0 (fun _ => true) true t v d ps) (hw : ∀ m ∈ d.weights P t, m ≤ reachBytes) : ∃ n l, repL (F0 W) V l v.cells.toList ∧ Good P n t l := by
  obtain ⟨n, h⟩ := h
  obtain ⟨l, h1, h2⟩ := trod_good (V := V) n t _ _ h hw
  exact ⟨n, l, h1, h2⟩

theorem arg_one {V : View} {v : Value} {a : AV} (ho : v.oneCell' = true) (h : repL (F0 W) V [a] v.cells.toList) : rep (F0 W) V a v := by
  rw [cells_one ho] at h
  simp only [repL] at h
  obtain ⟨x, r, e, hx, -⟩ := h
  cases e
  exact hx

theorem arg_agg {V : View} {cs : Array Value} {l : List AV} (ho : ∀ c ∈ cs.toList, c.oneCell' = true) (h : repL (F0 W) V l (Value.agg cs).cells.toList) : rep (F0 W) V (.agg l) (.agg cs) := by
  simp only [rep]
  exact ⟨cs.toList, rfl, h, ho⟩

theorem weights_of {ts : List TypeId} {ds : List (DataW H)} (h : (DataW.weightsEach P ts ds).all (· ≤ reachBytes) = true) {j : Nat} {t : TypeId} {d : DataW H} (ht : ts[j]? = some t) (hd : ds[j]? = some d) : ∀ m ∈ d.weights P t, m ≤ reachBytes := fun m hm => by
  have := List.all_eq_true.1 h _ (DataW.weights_mem_each ht hd m hm)
  simpa using this

open Go.RowKit in
/-- From a law's contract to what its row asks of the call. -/
theorem law_calls {f : FuncId} {args : List AV} {vs : List Value} (c : CallOK P f args [] 0 (fun a h m => a = .bool true ∨ a = .bl true)) (hr : repL (F0 W) V0 args vs) :
    Calls P f vs.toArray W fun e w' => e = .returned (.bool true) ∧ Below W.heap.size W w' := by
  refine (c.2 (F0 W) V0 W vs ⟨fun b o x h => h, fun id o hg => by simp [get] at hg, fun id o b off hg => by simp [get] at hg, fun id id' o o' b hg => by simp [get] at hg⟩ (fun id _ => ⟨rfl, rfl⟩) hr).mono ?_
  rintro e w' ⟨v, F', V', a, h', nx', rfl, hs, -, -, hrep, hk⟩
  refine ⟨?_, hs.os, hs.tape, hs.output, hs.size, fun k hk => hs.touch k hk ?_⟩
  · rcases hk with rfl | rfl <;> simp only [rep] at hrep <;> rw [hrep]
  · rintro ⟨id, o, hg, -⟩
    simp [get] at hg

end
end Go.Sym

namespace Go.Sym

section
variable {P : Program} {Q : AExit → St → Prop} {K : AV → Heap → Nat → Prop}

/-- No name is borne. -/
def Cl (a : AV) : Prop := ∀ ρ, ren ρ a = a
def ClL (l : List AV) : Prop := ∀ ρ, renL ρ l = l
def ClO (o : AObj) : Prop := ∀ ρ, renO ρ o = o

theorem ClL.nil : ClL [] := fun _ => rfl
theorem ClL.cons {a : AV} {l : List AV} (h : Cl a) (k : ClL l) : ClL (a :: l) := fun ρ => by simp only [renL, h ρ, k ρ]
theorem ClL.u8s (l : List UInt8) : ClL (u8s l) := fun ρ => renL_u8s ρ l
theorem ClL.map {α : Type} {f : α → AV} (h : ∀ x, Cl (f x)) (l : List α) : ClL (l.map f) := fun ρ => by
  induction l with
  | nil => rfl
  | cons x l ih => simp only [List.map_cons, renL, h x ρ, ih]
theorem Cl.int (k : IntKind) (n : Int) : Cl (.int k n) := fun _ => rfl
theorem Cl.bool (b : Bool) : Cl (.bool b) := fun _ => rfl
theorem Cl.bl (b : Bool) : Cl (.bl b) := fun _ => rfl
theorem Cl.str (s : List UInt8) : Cl (.str s) := fun _ => rfl
theorem Cl.nilp : Cl .nilp := fun _ => rfl
theorem Cl.nils : Cl .nils := fun _ => rfl
theorem Cl.nili : Cl .nili := fun _ => rfl
theorem Cl.top : Cl .top := fun _ => rfl
theorem Cl.sl {k : Nat} {l : List AV} (h : ClL l) : Cl (.sl .none k l) := fun ρ => by simp only [ren, h ρ, renP]
theorem Cl.bs (l : List UInt8) : Cl (.sl .none 0 (u8s l)) := Cl.sl (ClL.u8s l)
theorem Cl.slFull {k : Nat} {l : List AV} (h : ClL l) : Cl (.sl .full k l) := fun ρ => by simp only [ren, h ρ, renP]
theorem Cl.agg {l : List AV} (h : ClL l) : Cl (.agg l) := fun ρ => by simp only [ren, h ρ]
theorem Cl.tup {l : List AV} (h : ClL l) : Cl (.tup l) := fun ρ => by simp only [ren, h ρ]
theorem ClO.cells {l : List AV} (h : ClL l) : ClO (.cells l) := fun ρ => by simp only [renO, h ρ]

/-- Each object of that name turned. -/
def updA : Heap → Nat → AObj → Heap
  | [], _, _ => []
  | (j, x) :: r, i, o => bif Nat.beq i j then (j, o) :: updA r i o else (j, x) :: updA r i o

theorem keepH_one {nx i : Nat} {o1 : AObj} (hc : ClO o1) : ∀ h : Heap, keepH nx [i] [(0, o1)] h = updA h i o1
  | [] => rfl
  | (j, x) :: r => by
    unfold keepH updA idx
    cases Nat.beq i j with
    | true =>
      simp only [cond_true, get, Nat.beq_refl]
      rw [hc, keepH_one hc r]
    | false =>
      simp only [cond_false, idx]
      rw [keepH_one hc r]

theorem keepH_zero {nx : Nat} : ∀ h : Heap, keepH nx [] [] h = h
  | [] => rfl
  | (j, x) :: r => by
    unfold keepH idx
    simp only
    rw [keepH_zero r]

/-- A call, by a contract without objects. -/
theorem call0 {f : FuncId} {args : List AV} {h : Heap} {nx : Nat} {k : AV → Heap → Nat → R} {a1 : AV} (c : CallOK P f args [] 0 (Out a1 [] 0)) (hargs : ClL args) (ha : Cl a1) (hk : holds P Q K (k a1 h nx)) : holds P Q K (.call f args h nx k) :=
  CallOK.frame (names := []) c rfl trivial (hargs _).symm fun a0 h0' m' ⟨e1, e2, e3⟩ => by
    subst e1; subst e2; subst e3
    rw [ha]
    have : mergeH nx [] h [] = h := keepH_zero h
    rw [this]
    exact hk

/-- A call, by a contract of one object that bears no names. -/
theorem call1 {f : FuncId} {args args0 : List AV} {h : Heap} {nx : Nat} {k : AV → Heap → Nat → R} {a1 : AV} {o0 o1 : AObj} (i : Nat) (c : CallOK P f args0 [(0, o0)] 1 (Out a1 [(0, o1)] 1)) (hi : Nat.blt i nx = true) (hg : get h i = some o0)
    (h0 : ClO o0) (h1 : ClO o1) (hargs : args = renL (rho nx [i]) args0) (ha : Cl a1) (hk : holds P Q K (k a1 (updA h i o1) nx)) : holds P Q K (.call f args h nx k) :=
  CallOK.frame (names := [i]) c (by simp [okNames, hi, memN]) ⟨⟨by simp, by rw [h0]; exact hg⟩, trivial⟩ hargs fun a0 h0' m' ⟨e1, e2, e3⟩ => by
    subst e1; subst e2; subst e3
    rw [ha]
    have : mergeH nx [i] h [(0, o1)] = updA h i o1 := by
      show newH nx [i] (keepH nx [i] [(0, o1)] h) [(0, o1)] = _
      rw [keepH_one h1]
      rfl
    rw [this]
    exact hk

end
end Go.Sym

namespace Go.Sym

section
variable {P : Program} {Q : AExit → St → Prop} {K : AV → Heap → Nat → Prop}

theorem Le.noneOf {h : Heap} {p : Perm} {k : Nat} {l l' : List AV} (e : l = l') : Le h (.sl p k l) (.sl .none k l') := e ▸ Le.none

theorem Le.blOf {h : Heap} {b b' : Bool} (e : b = b') : Le h (.bl b) (.bool b') := e ▸ Le.bl
theorem Le.slL {h : Heap} {p : Perm} {k : Nat} {l m : List AV} (e : LeL h l m) (hn : l = [] → m = []) : Le h (.sl p k l) (.sl .none k m) := fun F V w x i r => by
  simp only [rep] at r ⊢
  rcases r with ⟨b, o, cap, vs, h1, h2, h3, h4, h5⟩ | ⟨h1, h2, h3⟩
  · exact .inl ⟨b, o, cap, vs, h1, e F V w vs i h2, h3, h4, h5.le⟩
  · exact .inr ⟨hn h1, h2, trivial⟩

/-- A new slice is answered, which may be appended to. -/
def NewSl (k : Nat) (l : List AV) : AV → Heap → Nat → Prop := fun a h m => ∃ s, Out (.sl (.tok 0 s) k l) [(0, .tip s)] 1 a h m

theorem CallOK.none {f : FuncId} {args : List AV} {k : Nat} {l : List AV} (c : CallOK P f args [] 0 (NewSl k l)) (hl : ClL l) : CallOK P f args [] 0 (Out (.sl .none k l) [] 0) :=
  c.ghost fun a h m ⟨s, e1, e2, e3⟩ => by
    subst e1; subst e2; subst e3
    exact ⟨_, [], 0, by omega, (Gh.le (h' := []) (fun _ => Le.none) (HeapLe.le trivial)).trans (Gh.drop (Nat.le_refl _) (fun _ => Cl.sl hl _) (HeapCut.get trivial)), rfl, rfl, rfl⟩

theorem callT {f : FuncId} {args : List AV} {h : Heap} {nx : Nat} {k : AV → Heap → Nat → R} {n : Nat} {l : List AV} (c : CallOK P f args [] 0 (NewSl n l)) (hargs : ClL args) (hl : ClL l)
    (hk : ∀ s, holds P Q K (k (.sl (.tok nx s) n l) ((nx, .tip s) :: h) (nx + 1))) : holds P Q K (.call f args h nx k) :=
  CallOK.frame (names := []) c rfl trivial (hargs _).symm fun a0 h0' m' ⟨s, e1, e2, e3⟩ => by
    subst e1; subst e2; subst e3
    have e : mergeH nx [] h [(0, .tip s)] = (nx, .tip s) :: h := by
      show newH nx [] (keepH nx [] _ h) [(0, .tip s)] = _
      have : ∀ (h0 : Heap) (h : Heap), keepH nx [] h0 h = h := fun h0 h => by
        induction h with
        | nil => rfl
        | cons x r ih => obtain ⟨j, x⟩ := x; unfold keepH idx; simp only; rw [ih]
      rw [this]
      rfl
    rw [e]
    have e2 : ren (rho nx []) (.sl (.tok 0 s) n l) = .sl (.tok nx s) n l := by
      simp only [ren, hl _, renP]
      rfl
    rw [e2]
    exact hk s

theorem updA_cons (x : Nat) (o : AObj) (r : Heap) (i : Nat) (o1 : AObj) : updA ((x, o) :: r) i o1 = bif Nat.beq i x then (x, o1) :: updA r i o1 else (x, o) :: updA r i o1 := rfl
theorem keepH_cons (nx : Nat) (names : List Nat) (h0 : Heap) (x : Nat) (o : AObj) (r : Heap) : keepH nx names h0 ((x, o) :: r) = match idx x names with
    | some i => match get h0 i with
      | some o' => (x, renO (rho nx names) o') :: keepH nx names h0 r
      | none => keepH nx names h0 r
    | none => (x, o) :: keepH nx names h0 r := rfl
theorem idx_two (i j x : Nat) : idx x [i, j] = bif Nat.beq i x then some 0 else bif Nat.beq j x then some 1 else none := by
  unfold idx
  cases Nat.beq i x with
  | true => rfl
  | false =>
    unfold idx
    cases Nat.beq j x with
    | true => rfl
    | false => rfl

/-- Two objects turned: a slice's owner, and the token. -/
theorem keepH_two {nx i j : Nat} {o1 : AObj} {o1' : AObj} {s : Nat} {h0 : Heap} (g1 : get h0 0 = some o1) (g2 : get h0 1 = some (.tip s)) (hne : Nat.beq i j = false) (hc : renO (rho nx [i, j]) o1 = o1') : ∀ h : Heap, keepH nx [i, j] h0 h = updA (updA h i o1') j (.tip s)
  | [] => rfl
  | (x, o) :: r => by
    rw [keepH_cons, keepH_two g1 g2 hne hc r, idx_two, updA_cons]
    cases hx : Nat.beq i x with
    | true =>
      have := Nat.eq_of_beq_eq_true hx
      subst this
      have hji : Nat.beq j i = false := by
        rw [Bool.eq_false_iff]; intro h; have := Nat.eq_of_beq_eq_true h; subst this; simp at hne
      simp only [cond_true]
      rw [updA_cons, hji, g1]
      show (i, renO _ o1) :: _ = _
      rw [hc]
      rfl
    | false =>
      simp only [cond_false]
      rw [updA_cons]
      cases hy : Nat.beq j x with
      | true =>
        simp only [cond_true]
        rw [g2]
        rfl
      | false =>
        simp only [cond_false]

/-- A writer's object, its slice's token named t. -/
abbrev wob (t s k : Nat) (l cs : List AV) : AObj := .cells (.sl (.tok t s) k l :: cs)

theorem ren_wob {nx i j s k : Nat} {l cs : List AV} (hl : ClL l) (hc : ClL cs) : renO (rho nx [i, j]) (wob 1 s k l cs) = wob j s k l cs := by
  simp only [renO, renL, ren, hl _, hc _, renP]
  rfl

theorem callW {f : FuncId} {args args0 : List AV} {h : Heap} {nx s s' k : Nat} {l l' cs cs' : List AV} {a1 a1' : AV} {kk : AV → Heap → Nat → R} (i j : Nat)
    (c : CallOK P f args0 [(0, wob 1 s k l cs), (1, .tip s)] 2 (Out a1 [(0, wob 1 s' k l' cs'), (1, .tip s')] 2)) (hok : okNames nx [i, j] = true) (hne : Nat.beq i j = false)
    (hi : get h i = some (wob j s k l cs)) (hj : get h j = some (.tip s)) (h1 : ClL l) (h2 : ClL cs) (h3 : ClL l') (h4 : ClL cs') (hargs : args = renL (rho nx [i, j]) args0) (ha : ren (rho nx [i, j]) a1 = a1')
    (hk : holds P Q K (withHeap (updA (updA h i (wob j s' k l' cs')) j (.tip s')) fun h => kk a1' h nx)) : holds P Q K (.call f args h nx kk) :=
  CallOK.frame (names := [i, j]) c hok ⟨⟨by simp, by rw [ren_wob h1 h2]; exact hi⟩, ⟨by simp, hj⟩, trivial⟩ hargs fun a0 h0' m' ⟨e1, e2, e3⟩ => by
    subst e1; subst e2; subst e3
    rw [ha]
    have : mergeH nx [i, j] h [(0, wob 1 s' k l' cs'), (1, .tip s')] = updA (updA h i (wob j s' k l' cs')) j (.tip s') := by
      show newH nx [i, j] (keepH nx [i, j] [(0, wob 1 s' k l' cs'), (1, .tip s')] h) [(0, wob 1 s' k l' cs'), (1, .tip s')] = _
      rw [keepH_two rfl rfl hne (ren_wob h3 h4)]
      rfl
    rw [this]
    rw [withHeap_eq] at hk
    exact hk

theorem callWE {f : FuncId} {args args0 : List AV} {h : Heap} {nx s k : Nat} {l l' cs cs' : List AV} {a1 a1' : AV} {kk : AV → Heap → Nat → R} (i j : Nat)
    (c : CallOK P f args0 [(0, wob 1 s k l cs), (1, .tip s)] 2 (fun a h m => ∃ s', Out a1 [(0, wob 1 s' k l' cs'), (1, .tip s')] 2 a h m)) (hok : okNames nx [i, j] = true) (hne : Nat.beq i j = false)
    (hi : get h i = some (wob j s k l cs)) (hj : get h j = some (.tip s)) (h1 : ClL l) (h2 : ClL cs) (h3 : ClL l') (h4 : ClL cs') (hargs : args = renL (rho nx [i, j]) args0) (ha : ren (rho nx [i, j]) a1 = a1')
    (hk : ∀ s', holds P Q K (withHeap (updA (updA h i (wob j s' k l' cs')) j (.tip s')) fun h => kk a1' h nx)) : holds P Q K (.call f args h nx kk) :=
  CallOK.frame (names := [i, j]) c hok ⟨⟨by simp, by rw [ren_wob h1 h2]; exact hi⟩, ⟨by simp, hj⟩, trivial⟩ hargs fun a0 h0' m' ⟨s', e1, e2, e3⟩ => by
    subst e1; subst e2; subst e3
    rw [ha]
    have : mergeH nx [i, j] h [(0, wob 1 s' k l' cs'), (1, .tip s')] = updA (updA h i (wob j s' k l' cs')) j (.tip s') := by
      show newH nx [i, j] (keepH nx [i, j] [(0, wob 1 s' k l' cs'), (1, .tip s')] h) [(0, wob 1 s' k l' cs'), (1, .tip s')] = _
      rw [keepH_two rfl rfl hne (ren_wob h3 h4)]
      rfl
    rw [this]
    have := hk s'
    rw [withHeap_eq] at this
    exact this

/-- The same, and a new slice is answered, ahead of other things. -/
theorem callWD {f : FuncId} {args args0 : List AV} {h : Heap} {nx s s' k k2 : Nat} {l l' l2 cs cs' cs2 : List AV} {kk : AV → Heap → Nat → R} (i j : Nat)
    (c : CallOK P f args0 [(0, wob 1 s k l cs), (1, .tip s)] 2 (fun a h m => ∃ s2, Out (.tup (.sl (.tok 2 s2) k2 l2 :: cs2)) [(2, .tip s2), (0, wob 1 s' k l' cs'), (1, .tip s')] 3 a h m)) (hok : okNames nx [i, j] = true) (hne : Nat.beq i j = false)
    (hi : get h i = some (wob j s k l cs)) (hj : get h j = some (.tip s)) (h1 : ClL l) (h2 : ClL cs) (h3 : ClL l') (h4 : ClL cs') (h5 : ClL l2) (h6 : ClL cs2) (hargs : args = renL (rho nx [i, j]) args0)
    (hk : ∀ s2, holds P Q K (withHeap ((nx, .tip s2) :: updA (updA h i (wob j s' k l' cs')) j (.tip s')) fun h => kk (.tup (.sl (.tok nx s2) k2 l2 :: cs2)) h (nx + 1))) : holds P Q K (.call f args h nx kk) :=
  CallOK.frame (names := [i, j]) c hok ⟨⟨by simp, by rw [ren_wob h1 h2]; exact hi⟩, ⟨by simp, hj⟩, trivial⟩ hargs fun a0 h0' m' ⟨s2, e1, e2, e3⟩ => by
    subst e1; subst e2; subst e3
    have e : mergeH nx [i, j] h [(2, .tip s2), (0, wob 1 s' k l' cs'), (1, .tip s')] = (nx, .tip s2) :: updA (updA h i (wob j s' k l' cs')) j (.tip s') := by
      show newH nx [i, j] (keepH nx [i, j] _ h) [(2, .tip s2), (0, wob 1 s' k l' cs'), (1, .tip s')] = _
      rw [keepH_two rfl rfl hne (ren_wob h3 h4)]
      rfl
    have e2 : ren (rho nx [i, j]) (.tup (.sl (.tok 2 s2) k2 l2 :: cs2)) = .tup (.sl (.tok nx s2) k2 l2 :: cs2) := by
      simp only [ren, renL, h5 _, h6 _, renP]
      rfl
    rw [e, e2]
    have := hk s2
    rw [withHeap_eq] at this
    exact this

theorem get_updA {i : Nat} {o : AObj} : ∀ (h : Heap) (j : Nat), get (updA h i o) j = if j = i then (get h j).map fun _ => o else get h j
  | [], j => by simp [updA, get]
  | (x, y) :: r, j => by
    rw [updA_cons]
    have ih := get_updA (i := i) (o := o) r j
    cases hx : Nat.beq i x with
    | true =>
      have := Nat.eq_of_beq_eq_true hx
      subst this
      simp only [cond_true]
      rw [get_cons', get_cons']
      by_cases hj : i = j
      · subst hj; simp
      · rw [if_neg hj, if_neg hj, ih]
    | false =>
      have hne : i ≠ x := fun h => by subst h; simp at hx
      simp only [cond_false]
      rw [get_cons', get_cons']
      by_cases hj : x = j
      · subst hj; simp [Ne.symm hne]
      · rw [if_neg hj, if_neg hj, ih]

/-- A writer that is nothing yet: its slice may be appended to. -/
theorem holds_wnew {f : FuncId} {args : List AV} {h : Heap} {nx : Nat} {k : AV → Heap → Nat → R} (i n : Nat) (cs cs' : List AV) (hi : get h i = some (.cells (.nils :: cs))) (hc : LeL ((nx, .tip 0) :: h) cs cs') (hn : Nat.beq nx i = false)
    (hh : holds P Q K (.call f args ((nx, .tip 0) :: updA h i (wob nx 0 n [] cs')) (nx + 1) k)) : holds P Q K (.call f args h nx k) := by
  refine holds_pre ((Gh.token nx _ h nx).trans (Gh.le (fun _ => Le.refl _ _) fun id o' hg => ?_)) rfl hh
  rw [get_cons'] at hg
  by_cases hid : nx = id
  · subst hid
    rw [if_pos rfl] at hg
    cases hg
    exact ⟨_, by simp [get], LeO.refl _ _⟩
  · rw [if_neg hid, get_updA] at hg
    by_cases h2 : id = i
    · subst h2
      rw [if_pos rfl, hi] at hg
      simp only [Option.map_some, Option.some.injEq] at hg
      subst hg
      refine ⟨_, by rw [get_cons', if_neg hid]; exact hi, ?_⟩
      exact LeL.cons (Le.nilsTok (by simp [get])) hc
    · rw [if_neg h2] at hg
      exact ⟨o', by rw [get_cons', if_neg hid]; exact hg, LeO.refl _ _⟩

/-- A call by a contract of one object that tells of its answer no more than a property. -/
theorem call1E {X : Type} {Pr : X → Prop} {a1 : X → AV} {o1 : X → AObj} {f : FuncId} {args args0 : List AV} {h : Heap} {nx : Nat} {k : AV → Heap → Nat → R} {o0 : AObj} (i : Nat)
    (c : CallOK P f args0 [(0, o0)] 1 (fun a h m => ∃ x, Pr x ∧ Out (a1 x) [(0, o1 x)] 1 a h m)) (hi : Nat.blt i nx = true) (hg : get h i = some o0)
    (h0 : ClO o0) (h1 : ∀ x, ClO (o1 x)) (hargs : args = renL (rho nx [i]) args0) (ha : ∀ x, Cl (a1 x)) (hk : ∀ x, Pr x → holds P Q K (withHeap (updA h i (o1 x)) fun h => k (a1 x) h nx)) : holds P Q K (.call f args h nx k) :=
  CallOK.frame (names := [i]) c (by simp [okNames, hi, memN]) ⟨⟨by simp, by rw [h0]; exact hg⟩, trivial⟩ hargs fun a0 h0' m' ⟨x, hx, e1, e2, e3⟩ => by
    subst e1; subst e2; subst e3
    rw [ha x]
    have e : mergeH nx [i] h [(0, o1 x)] = updA h i (o1 x) := by
      show newH nx [i] (keepH nx [i] [(0, o1 x)] h) [(0, o1 x)] = _
      rw [keepH_one (h1 x)]
      rfl
    rw [e]
    have := hk x hx
    rw [withHeap_eq] at this
    exact this

theorem CallOK.fitE {X : Type} {Pr : X → Prop} {a1 : X → AV} {h1 : X → Heap} {f : FuncId} {args : List AV} {h : Heap} {nx : Nat} {m1 : Nat} (hle : nx ≤ m1)
    (c : CallOK P f args h nx (fun a h m => ∃ x, Pr x ∧ Fit nx (a1 x) (h1 x) m1 a h m)) : CallOK P f args h nx (fun a h m => ∃ x, Pr x ∧ Out (a1 x) (h1 x) m1 a h m) :=
  c.ghost fun a h m ⟨x, hx, g1, g2, g3, g4, g5⟩ => ⟨a1 x, h1 x, m1, g1, (Gh.le (fun _ => g2) (HeapLe.le g3)).trans (Gh.drop hle (fun _ => g4) (HeapCut.get g5)), x, hx, rfl, rfl, rfl⟩

/-- A call that answers a new object. -/
theorem callNew {f : FuncId} {args : List AV} {h : Heap} {nx : Nat} {k : AV → Heap → Nat → R} {o : AObj} (c : CallOK P f args [] 0 (Out (.ptr 0 0) [(0, o)] 1)) (hargs : ClL args) (ho : ClO o)
    (hk : holds P Q K (k (.ptr nx 0) ((nx, o) :: h) (nx + 1))) : holds P Q K (.call f args h nx k) :=
  CallOK.frame (names := []) c rfl trivial (hargs _).symm fun a0 h0' m' ⟨e1, e2, e3⟩ => by
    subst e1; subst e2; subst e3
    have e : mergeH nx [] h [(0, o)] = (nx, o) :: h := by
      show (nx + 0, renO (rho nx []) o) :: keepH nx [] _ h = _
      rw [ho]
      have : ∀ (h0 : Heap) (h : Heap), keepH nx [] h0 h = h := fun h0 h => by
        induction h with
        | nil => rfl
        | cons x r ih => obtain ⟨j, x⟩ := x; unfold keepH idx; simp only; rw [ih]
      rw [this]
      rfl
    rw [e]
    exact hk

/-- A call by a contract without objects that tells of its answer no more than a property. -/
theorem call0E {X : Type} {Pr : X → Prop} {a1 : X → AV} {f : FuncId} {args : List AV} {h : Heap} {nx : Nat} {k : AV → Heap → Nat → R}
    (c : CallOK P f args [] 0 (fun a h m => ∃ x, Pr x ∧ Out (a1 x) [] 0 a h m)) (hargs : ClL args) (ha : ∀ x, Cl (a1 x)) (hk : ∀ x, Pr x → holds P Q K (k (a1 x) h nx)) : holds P Q K (.call f args h nx k) :=
  CallOK.frame (names := []) c rfl trivial (hargs _).symm fun a0 h0' m' ⟨x, hx, e1, e2, e3⟩ => by
    subst e1; subst e2; subst e3
    rw [ha x]
    have : mergeH nx [] h [] = h := keepH_zero h
    rw [this]
    exact hk x hx

end
end Go.Sym
