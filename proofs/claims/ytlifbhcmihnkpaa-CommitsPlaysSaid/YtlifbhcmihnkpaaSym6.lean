/-
  Calls by contracts whose answer is a new slice, and by those of a writer: an object with a slice of its own, and that slice's token.
-/
import Derived.Test.YtlifbhcmihnkpaaSym5
set_option linter.unusedVariables false
set_option linter.unusedSimpArgs false
namespace Go.Sym

section
variable {P : Program} {Q : AExit → St → Prop} {K : AV → Heap → Nat → Prop}

theorem Le.noneOf {h : Heap} {p : Perm} {k : Nat} {l l' : List AV} (e : l = l') : Le h (.sl p k l) (.sl .none k l') := e ▸ Le.none

theorem Le.blOf {h : Heap} {b b' : Bool} (e : b = b') : Le h (.bl b) (.bool b') := e ▸ Le.bl
theorem Le.slL {h : Heap} {p : Perm} {k : Nat} {l m : List AV} (e : LeL h l m) (hn : l = [] → m = []) : Le h (.sl p k l) (.sl .none k m) := fun F V w x i r => by
  simp only [rep] at r ⊢
  rcases r with ⟨b, o, cap, vs, h1, h2, h3, h4, h5⟩ | ⟨h1, h2, h3⟩
  · exact .inl ⟨b, o, cap, vs, h1, e F V w vs i h2, h3, h4, h5.le⟩
  · exact .inr ⟨hn h1, h2, trivial⟩

/-- A new slice is answered, which may be appended to. -/
def NewSl (k : Nat) (l : List AV) : AV → Heap → Nat → Prop := fun a h m => ∃ s, Out (.sl (.tok 0 s) k l) [(0, .tip s)] 1 a h m

theorem CallOK.none {f : FuncId} {args : List AV} {k : Nat} {l : List AV} (c : CallOK P f args [] 0 (NewSl k l)) (hl : ClL l) : CallOK P f args [] 0 (Out (.sl .none k l) [] 0) :=
  c.ghost fun a h m ⟨s, e1, e2, e3⟩ => by
    subst e1; subst e2; subst e3
    exact ⟨_, [], 0, by omega, (Gh.le (h' := []) (fun _ => Le.none) (HeapLe.le trivial)).trans (Gh.drop (Nat.le_refl _) (fun _ => Cl.sl hl _) (HeapCut.get trivial)), rfl, rfl, rfl⟩

theorem callT {f : FuncId} {args : List AV} {h : Heap} {nx : Nat} {k : AV → Heap → Nat → R} {n : Nat} {l : List AV} (c : CallOK P f args [] 0 (NewSl n l)) (hargs : ClL args) (hl : ClL l)
    (hk : ∀ s, holds P Q K (k (.sl (.tok nx s) n l) ((nx, .tip s) :: h) (nx + 1))) : holds P Q K (.call f args h nx k) :=
  CallOK.frame (names := []) c rfl trivial (hargs _).symm fun a0 h0' m' ⟨s, e1, e2, e3⟩ => by
    subst e1; subst e2; subst e3
    have e : mergeH nx [] h [(0, .tip s)] = (nx, .tip s) :: h := by
      show newH nx [] (keepH nx [] _ h) [(0, .tip s)] = _
      have : ∀ (h0 : Heap) (h : Heap), keepH nx [] h0 h = h := fun h0 h => by
        induction h with
        | nil => rfl
        | cons x r ih => obtain ⟨j, x⟩ := x; unfold keepH idx; simp only; rw [ih]
      rw [this]
      rfl
    rw [e]
    have e2 : ren (rho nx []) (.sl (.tok 0 s) n l) = .sl (.tok nx s) n l := by
      simp only [ren, hl _, renP]
      rfl
    rw [e2]
    exact hk s

theorem updA_cons (x : Nat) (o : AObj) (r : Heap) (i : Nat) (o1 : AObj) : updA ((x, o) :: r) i o1 = bif Nat.beq i x then (x, o1) :: updA r i o1 else (x, o) :: updA r i o1 := rfl
theorem keepH_cons (nx : Nat) (names : List Nat) (h0 : Heap) (x : Nat) (o : AObj) (r : Heap) : keepH nx names h0 ((x, o) :: r) = match idx x names with
    | some i => match get h0 i with
      | some o' => (x, renO (rho nx names) o') :: keepH nx names h0 r
      | none => keepH nx names h0 r
    | none => (x, o) :: keepH nx names h0 r := rfl
theorem idx_two (i j x : Nat) : idx x [i, j] = bif Nat.beq i x then some 0 else bif Nat.beq j x then some 1 else none := by
  unfold idx
  cases Nat.beq i x with
  | true => rfl
  | false =>
    unfold idx
    cases Nat.beq j x with
    | true => rfl
    | false => rfl

/-- Two objects turned: a slice's owner, and the token. -/
theorem keepH_two {nx i j : Nat} {o1 : AObj} {o1' : AObj} {s : Nat} {h0 : Heap} (g1 : get h0 0 = some o1) (g2 : get h0 1 = some (.tip s)) (hne : Nat.beq i j = false) (hc : renO (rho nx [i, j]) o1 = o1') : ∀ h : Heap, keepH nx [i, j] h0 h = updA (updA h i o1') j (.tip s)
  | [] => rfl
  | (x, o) :: r => by
    rw [keepH_cons, keepH_two g1 g2 hne hc r, idx_two, updA_cons]
    cases hx : Nat.beq i x with
    | true =>
      have := Nat.eq_of_beq_eq_true hx
      subst this
      have hji : Nat.beq j i = false := by
        rw [Bool.eq_false_iff]; intro h; have := Nat.eq_of_beq_eq_true h; subst this; simp at hne
      simp only [cond_true]
      rw [updA_cons, hji, g1]
      show (i, renO _ o1) :: _ = _
      rw [hc]
      rfl
    | false =>
      simp only [cond_false]
      rw [updA_cons]
      cases hy : Nat.beq j x with
      | true =>
        simp only [cond_true]
        rw [g2]
        rfl
      | false =>
        simp only [cond_false]

/-- A writer's object, its slice's token named t. -/
abbrev wob (t s k : Nat) (l cs : List AV) : AObj := .cells (.sl (.tok t s) k l :: cs)

theorem ren_wob {nx i j s k : Nat} {l cs : List AV} (hl : ClL l) (hc : ClL cs) : renO (rho nx [i, j]) (wob 1 s k l cs) = wob j s k l cs := by
  simp only [renO, renL, ren, hl _, hc _, renP]
  rfl

theorem callW {f : FuncId} {args args0 : List AV} {h : Heap} {nx s s' k : Nat} {l l' cs cs' : List AV} {a1 a1' : AV} {kk : AV → Heap → Nat → R} (i j : Nat)
    (c : CallOK P f args0 [(0, wob 1 s k l cs), (1, .tip s)] 2 (Out a1 [(0, wob 1 s' k l' cs'), (1, .tip s')] 2)) (hok : okNames nx [i, j] = true) (hne : Nat.beq i j = false)
    (hi : get h i = some (wob j s k l cs)) (hj : get h j = some (.tip s)) (h1 : ClL l) (h2 : ClL cs) (h3 : ClL l') (h4 : ClL cs') (hargs : args = renL (rho nx [i, j]) args0) (ha : ren (rho nx [i, j]) a1 = a1')
    (hk : holds P Q K (withHeap (updA (updA h i (wob j s' k l' cs')) j (.tip s')) fun h => kk a1' h nx)) : holds P Q K (.call f args h nx kk) :=
  CallOK.frame (names := [i, j]) c hok ⟨⟨by simp, by rw [ren_wob h1 h2]; exact hi⟩, ⟨by simp, hj⟩, trivial⟩ hargs fun a0 h0' m' ⟨e1, e2, e3⟩ => by
    subst e1; subst e2; subst e3
    rw [ha]
    have : mergeH nx [i, j] h [(0, wob 1 s' k l' cs'), (1, .tip s')] = updA (updA h i (wob j s' k l' cs')) j (.tip s') := by
      show newH nx [i, j] (keepH nx [i, j] [(0, wob 1 s' k l' cs'), (1, .tip s')] h) [(0, wob 1 s' k l' cs'), (1, .tip s')] = _
      rw [keepH_two rfl rfl hne (ren_wob h3 h4)]
      rfl
    rw [this]
    rw [withHeap_eq] at hk
    exact hk

theorem callWE {f : FuncId} {args args0 : List AV} {h : Heap} {nx s k : Nat} {l l' cs cs' : List AV} {a1 a1' : AV} {kk : AV → Heap → Nat → R} (i j : Nat)
    (c : CallOK P f args0 [(0, wob 1 s k l cs), (1, .tip s)] 2 (fun a h m => ∃ s', Out a1 [(0, wob 1 s' k l' cs'), (1, .tip s')] 2 a h m)) (hok : okNames nx [i, j] = true) (hne : Nat.beq i j = false)
    (hi : get h i = some (wob j s k l cs)) (hj : get h j = some (.tip s)) (h1 : ClL l) (h2 : ClL cs) (h3 : ClL l') (h4 : ClL cs') (hargs : args = renL (rho nx [i, j]) args0) (ha : ren (rho nx [i, j]) a1 = a1')
    (hk : ∀ s', holds P Q K (withHeap (updA (updA h i (wob j s' k l' cs')) j (.tip s')) fun h => kk a1' h nx)) : holds P Q K (.call f args h nx kk) :=
  CallOK.frame (names := [i, j]) c hok ⟨⟨by simp, by rw [ren_wob h1 h2]; exact hi⟩, ⟨by simp, hj⟩, trivial⟩ hargs fun a0 h0' m' ⟨s', e1, e2, e3⟩ => by
    subst e1; subst e2; subst e3
    rw [ha]
    have : mergeH nx [i, j] h [(0, wob 1 s' k l' cs'), (1, .tip s')] = updA (updA h i (wob j s' k l' cs')) j (.tip s') := by
      show newH nx [i, j] (keepH nx [i, j] [(0, wob 1 s' k l' cs'), (1, .tip s')] h) [(0, wob 1 s' k l' cs'), (1, .tip s')] = _
      rw [keepH_two rfl rfl hne (ren_wob h3 h4)]
      rfl
    rw [this]
    have := hk s'
    rw [withHeap_eq] at this
    exact this

/-- The same, and a new slice is answered, ahead of other things. -/
theorem callWD {f : FuncId} {args args0 : List AV} {h : Heap} {nx s s' k k2 : Nat} {l l' l2 cs cs' cs2 : List AV} {kk : AV → Heap → Nat → R} (i j : Nat)
    (c : CallOK P f args0 [(0, wob 1 s k l cs), (1, .tip s)] 2 (fun a h m => ∃ s2, Out (.tup (.sl (.tok 2 s2) k2 l2 :: cs2)) [(2, .tip s2), (0, wob 1 s' k l' cs'), (1, .tip s')] 3 a h m)) (hok : okNames nx [i, j] = true) (hne : Nat.beq i j = false)
    (hi : get h i = some (wob j s k l cs)) (hj : get h j = some (.tip s)) (h1 : ClL l) (h2 : ClL cs) (h3 : ClL l') (h4 : ClL cs') (h5 : ClL l2) (h6 : ClL cs2) (hargs : args = renL (rho nx [i, j]) args0)
    (hk : ∀ s2, holds P Q K (withHeap ((nx, .tip s2) :: updA (updA h i (wob j s' k l' cs')) j (.tip s')) fun h => kk (.tup (.sl (.tok nx s2) k2 l2 :: cs2)) h (nx + 1))) : holds P Q K (.call f args h nx kk) :=
  CallOK.frame (names := [i, j]) c hok ⟨⟨by simp, by rw [ren_wob h1 h2]; exact hi⟩, ⟨by simp, hj⟩, trivial⟩ hargs fun a0 h0' m' ⟨s2, e1, e2, e3⟩ => by
    subst e1; subst e2; subst e3
    have e : mergeH nx [i, j] h [(2, .tip s2), (0, wob 1 s' k l' cs'), (1, .tip s')] = (nx, .tip s2) :: updA (updA h i (wob j s' k l' cs')) j (.tip s') := by
      show newH nx [i, j] (keepH nx [i, j] _ h) [(2, .tip s2), (0, wob 1 s' k l' cs'), (1, .tip s')] = _
      rw [keepH_two rfl rfl hne (ren_wob h3 h4)]
      rfl
    have e2 : ren (rho nx [i, j]) (.tup (.sl (.tok 2 s2) k2 l2 :: cs2)) = .tup (.sl (.tok nx s2) k2 l2 :: cs2) := by
      simp only [ren, renL, h5 _, h6 _, renP]
      rfl
    rw [e, e2]
    have := hk s2
    rw [withHeap_eq] at this
    exact this

theorem get_updA {i : Nat} {o : AObj} : ∀ (h : Heap) (j : Nat), get (updA h i o) j = if j = i then (get h j).map fun _ => o else get h j
  | [], j => by simp [updA, get]
  | (x, y) :: r, j => by
    rw [updA_cons]
    have ih := get_updA (i := i) (o := o) r j
    cases hx : Nat.beq i x with
    | true =>
      have := Nat.eq_of_beq_eq_true hx
      subst this
      simp only [cond_true]
      rw [get_cons', get_cons']
      by_cases hj : i = j
      · subst hj; simp
      · rw [if_neg hj, if_neg hj, ih]
    | false =>
      have hne : i ≠ x := fun h => by subst h; simp at hx
      simp only [cond_false]
      rw [get_cons', get_cons']
      by_cases hj : x = j
      · subst hj; simp [Ne.symm hne]
      · rw [if_neg hj, if_neg hj, ih]

/-- A writer that is nothing yet: its slice may be appended to. -/
theorem holds_wnew {f : FuncId} {args : List AV} {h : Heap} {nx : Nat} {k : AV → Heap → Nat → R} (i n : Nat) (cs cs' : List AV) (hi : get h i = some (.cells (.nils :: cs))) (hc : LeL ((nx, .tip 0) :: h) cs cs') (hn : Nat.beq nx i = false)
    (hh : holds P Q K (.call f args ((nx, .tip 0) :: updA h i (wob nx 0 n [] cs')) (nx + 1) k)) : holds P Q K (.call f args h nx k) := by
  refine holds_pre ((Gh.token nx _ h nx).trans (Gh.le (fun _ => Le.refl _ _) fun id o' hg => ?_)) rfl hh
  rw [get_cons'] at hg
  by_cases hid : nx = id
  · subst hid
    rw [if_pos rfl] at hg
    cases hg
    exact ⟨_, by simp [get], LeO.refl _ _⟩
  · rw [if_neg hid, get_updA] at hg
    by_cases h2 : id = i
    · subst h2
      rw [if_pos rfl, hi] at hg
      simp only [Option.map_some, Option.some.injEq] at hg
      subst hg
      refine ⟨_, by rw [get_cons', if_neg hid]; exact hi, ?_⟩
      exact LeL.cons (Le.nilsTok (by simp [get])) hc
    · rw [if_neg h2] at hg
      exact ⟨o', by rw [get_cons', if_neg hid]; exact hg, LeO.refl _ _⟩

/-- A call by a contract of one object that tells of its answer no more than a property. -/
theorem call1E {X : Type} {Pr : X → Prop} {a1 : X → AV} {o1 : X → AObj} {f : FuncId} {args args0 : List AV} {h : Heap} {nx : Nat} {k : AV → Heap → Nat → R} {o0 : AObj} (i : Nat)
    (c : CallOK P f args0 [(0, o0)] 1 (fun a h m => ∃ x, Pr x ∧ Out (a1 x) [(0, o1 x)] 1 a h m)) (hi : Nat.blt i nx = true) (hg : get h i = some o0)
    (h0 : ClO o0) (h1 : ∀ x, ClO (o1 x)) (hargs : args = renL (rho nx [i]) args0) (ha : ∀ x, Cl (a1 x)) (hk : ∀ x, Pr x → holds P Q K (withHeap (updA h i (o1 x)) fun h => k (a1 x) h nx)) : holds P Q K (.call f args h nx k) :=
  CallOK.frame (names := [i]) c (by simp [okNames, hi, memN]) ⟨⟨by simp, by rw [h0]; exact hg⟩, trivial⟩ hargs fun a0 h0' m' ⟨x, hx, e1, e2, e3⟩ => by
    subst e1; subst e2; subst e3
    rw [ha x]
    have e : mergeH nx [i] h [(0, o1 x)] = updA h i (o1 x) := by
      show newH nx [i] (keepH nx [i] [(0, o1 x)] h) [(0, o1 x)] = _
      rw [keepH_one (h1 x)]
      rfl
    rw [e]
    have := hk x hx
    rw [withHeap_eq] at this
    exact this

theorem CallOK.fitE {X : Type} {Pr : X → Prop} {a1 : X → AV} {h1 : X → Heap} {f : FuncId} {args : List AV} {h : Heap} {nx : Nat} {m1 : Nat} (hle : nx ≤ m1)
    (c : CallOK P f args h nx (fun a h m => ∃ x, Pr x ∧ Fit nx (a1 x) (h1 x) m1 a h m)) : CallOK P f args h nx (fun a h m => ∃ x, Pr x ∧ Out (a1 x) (h1 x) m1 a h m) :=
  c.ghost fun a h m ⟨x, hx, g1, g2, g3, g4, g5⟩ => ⟨a1 x, h1 x, m1, g1, (Gh.le (fun _ => g2) (HeapLe.le g3)).trans (Gh.drop hle (fun _ => g4) (HeapCut.get g5)), x, hx, rfl, rfl, rfl⟩

/-- A call that answers a new object. -/
theorem callNew {f : FuncId} {args : List AV} {h : Heap} {nx : Nat} {k : AV → Heap → Nat → R} {o : AObj} (c : CallOK P f args [] 0 (Out (.ptr 0 0) [(0, o)] 1)) (hargs : ClL args) (ho : ClO o)
    (hk : holds P Q K (k (.ptr nx 0) ((nx, o) :: h) (nx + 1))) : holds P Q K (.call f args h nx k) :=
  CallOK.frame (names := []) c rfl trivial (hargs _).symm fun a0 h0' m' ⟨e1, e2, e3⟩ => by
    subst e1; subst e2; subst e3
    have e : mergeH nx [] h [(0, o)] = (nx, o) :: h := by
      show (nx + 0, renO (rho nx []) o) :: keepH nx [] _ h = _
      rw [ho]
      have : ∀ (h0 : Heap) (h : Heap), keepH nx [] h0 h = h := fun h0 h => by
        induction h with
        | nil => rfl
        | cons x r ih => obtain ⟨j, x⟩ := x; unfold keepH idx; simp only; rw [ih]
      rw [this]
      rfl
    rw [e]
    exact hk

/-- A call by a contract without objects that tells of its answer no more than a property. -/
theorem call0E {X : Type} {Pr : X → Prop} {a1 : X → AV} {f : FuncId} {args : List AV} {h : Heap} {nx : Nat} {k : AV → Heap → Nat → R}
    (c : CallOK P f args [] 0 (fun a h m => ∃ x, Pr x ∧ Out (a1 x) [] 0 a h m)) (hargs : ClL args) (ha : ∀ x, Cl (a1 x)) (hk : ∀ x, Pr x → holds P Q K (k (a1 x) h nx)) : holds P Q K (.call f args h nx k) :=
  CallOK.frame (names := []) c rfl trivial (hargs _).symm fun a0 h0' m' ⟨x, hx, e1, e2, e3⟩ => by
    subst e1; subst e2; subst e3
    rw [ha x]
    have : mergeH nx [] h [] = h := keepH_zero h
    rw [this]
    exact hk x hx

end
end Go.Sym
