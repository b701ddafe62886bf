/-
  A loop and a function, with what is told otherwise.
-/
import Derived.Test.YthclmkhkchbpiaaSym3
set_option linter.unusedVariables false
set_option linter.unusedSimpArgs false
namespace Go.Sym

section
variable {n0 : Nat} {P : Program} {Q : AExit → St → Prop} {K : AV → Heap → Nat → Prop}

theorem Marks.ghost {V V' : View} {h h' : Heap} {w : World} (hown : ∀ b, Own V' h' b → Own V h b) : ∀ {ds : List Deferred}, Marks n0 V h w ds → Marks n0 V' h' w ds
  | [], _ => trivial
  | d :: ds, ⟨⟨r, e, hn, hr, ho, hd⟩, k⟩ => ⟨⟨r, e, hn, hr, fun hh => ho (hown r hh), hd⟩, Marks.ghost hown k⟩

def WkG (n : Nat) (s s' : St) : Prop := n ≤ s.nx ∧ s'.sz = s.sz ∧ Gh n (look s.env) s.h s.nx (look s'.env) s'.h s'.nx

def RoundG {ι : Type} (n : Nat) (inv : ι → St) (μ : ι → Nat) (Q : AExit → St → Prop) (i : ι) (e : AExit) (s : St) : Prop :=
  match e with
  | .normal => ∃ j, μ j < μ i ∧ WkG n s (inv j)
  | .exit n => Q (.exit n) s
  | .ret => Q .ret s

theorem WkG.use {n : Nat} {s s' : St} (h : WkG n s s') {F0 F : Fix} {V0 V : View} {h0 : Heap} {w0 w : World} {a : Act} (hf : fresh V0 n) (hs : Step F0 V0 h0 w0 F V s.h w) (r : Rep n0 F V s a w) : ∃ F' V', Step F0 V0 h0 w0 F' V' s'.h w ∧ Rep n0 F' V' s' a w := by
  obtain ⟨hn, hz, hg⟩ := h
  obtain ⟨_, hg⟩ := hg hn
  obtain ⟨F', V', q1, q2, q3, q4, q5, q6, q7⟩ := hg F V w (fun t => a.tmps.getD t undef) r.inv r.fresh r.env
  exact ⟨F', V', hs.ghost hf q1 q2 q3 q4, r.defers.ghost q3, by rw [hz]; exact r.size, q7, q5, q6⟩

open Classical in
theorem tri_loopG {ι : Type} (inv : ι → St) (μ : ι → Nat) {c : Code} {s : St} (i0 : ι) (h0 : WkG s.nx s (inv i0))
    (round : ∀ i, holds P (RoundG s.nx inv μ Q i) (fun _ _ _ => False) (exec P c (inv i) fun e s => .fin e s)) (hsz : ∀ i, (inv i).sz = s.sz := by intros; rfl) : Tri P (.loop c) s Q := by
  intro n0 n fr F V a w hro hn0 r
  let I : Act → World → ι → Prop := fun a' w' i => ∃ F' V', Step F V s.h w F' V' (inv i).h w' ∧ Rep n0 F' V' (inv i) a' w'
  let M : Act → World → Nat → Prop := fun a' w' n => ∃ i, μ i = n ∧ I a' w' i
  let m : Act → World → Nat := fun a' w' => if h : ∃ n, M a' w' n then (least h).choose else 0
  refine wpIn_loop (fun a' w' => ∃ i, I a' w' i) m ?_ ?_
  · obtain ⟨F', V', s', r'⟩ := h0.use r.fresh (.refl ..) r
    exact ⟨i0, F', V', s', r'⟩
  · rintro a1 w1 ⟨i1, hi1⟩
    have hex : ∃ n, M a1 w1 n := ⟨μ i1, i1, rfl, hi1⟩
    have hm : m a1 w1 = (least hex).choose := dif_pos hex
    obtain ⟨i, hi, F1, V1, s1, r1⟩ := (least hex).choose_spec.1
    refine wpIn_mono (exec_sound (by rw [hsz]; exact hro.mono s1.view) (Nat.le_trans hn0 s1.size) r1 (round i)) ?_
    rintro e a2 w2 ⟨ae, s', F2, V2, rfl, hz, hs, hr, hk⟩
    cases ae with
    | normal =>
      obtain ⟨j, hj, hw⟩ := hk
      obtain ⟨F3, V3, s3, r3⟩ := hw.use r.fresh (s1.trans hs) hr
      have hIj : I a2 w2 j := ⟨F3, V3, s3, r3⟩
      refine ⟨⟨j, hIj⟩, ?_⟩
      have hex2 : ∃ n, M a2 w2 n := ⟨μ j, j, rfl, hIj⟩
      have hm2 : m a2 w2 = (least hex2).choose := dif_pos hex2
      rw [hm, hm2, ← hi]
      have : (least hex2).choose ≤ μ j := (least hex2).choose_spec.2 _ ⟨j, rfl, hIj⟩
      omega
    | exit n => exact ⟨.exit n, s', F2, V2, rfl, hz.trans (hsz i), s1.trans hs, hr, hk⟩
    | ret => exact ⟨.ret, s', F2, V2, rfl, hz.trans (hsz i), s1.trans hs, hr, hk⟩

theorem CallOK.ghost {K K' : AV → Heap → Nat → Prop} {f : FuncId} {args : List AV} {h : Heap} {nx : Nat} (c : CallOK P f args h nx K)
    (hK : ∀ a h' nx', K a h' nx' → ∃ a' h'' nx'', nx ≤ nx' ∧ Gh nx (fun _ => a) h' nx' (fun _ => a') h'' nx'' ∧ K' a' h'' nx'') : CallOK P f args h nx K' := by
  refine ⟨c.1, fun F V w vs hi hf hr => (c.2 F V w vs hi hf hr).mono ?_⟩
  rintro e w' ⟨v, F', V', a, h', nx', rfl, hs, hi', hf', hrep, hk⟩
  obtain ⟨a', h'', nx'', hle, hg, hk'⟩ := hK a h' nx' hk
  obtain ⟨_, hg⟩ := hg hle
  obtain ⟨F2, V2, q1, q2, q3, q4, q5, q6, q7⟩ := hg F' V' w' (fun _ => v) hi' hf' (fun _ => hrep)
  exact ⟨v, F2, V2, a', h'', nx'', rfl, hs.ghost hf q1 q2 q3 q4, q5, q6, q7 0, hk'⟩

theorem callOK {f : FuncId} {fn : Func} {N : Nat} {args : List AV} {h : Heap} {nx : Nat} {KK : AV → Heap → Nat → Prop} (hcall : ∀ (args : Array Value) (w : World), (callFunc f args).run P w = .ok (.enter f args) w)
    (hf : P.funcs[f]? = some fn) (hn : fn.ntmps = N) (hz : Nat.ble args.length N = true) (hh : holds P (fun _ _ => False) KK (body P fn N args h nx)) : CallOK P f args h nx KK :=
  callOK_of_body hcall hf (by have := Nat.le_of_ble_eq_true hz; omega) hh

theorem CallOK.mono {K K' : AV → Heap → Nat → Prop} {f : FuncId} {args : List AV} {h : Heap} {nx : Nat} (c : CallOK P f args h nx K) (hK : ∀ a h' nx', K a h' nx' → K' a h' nx') : CallOK P f args h nx K' := by
  refine ⟨c.1, fun F V w vs hi hf hr => (c.2 F V w vs hi hf hr).mono ?_⟩
  rintro e w' ⟨v, F', V', a, h', nx', rfl, hs, hi', hf', hrep, hk⟩
  exact ⟨v, F', V', a, h', nx', rfl, hs, hi', hf', hrep, hK _ _ _ hk⟩

/-- A heap written out ahead of going on. -/
def withHeap (h : Heap) (k : Heap → R) : R :=
  match h with
  | [] => k []
  | (i, o) :: r => match o with
    | .cells l => withCells l fun l => withHeap r fun r => k ((i, .cells l) :: r)
    | .tip s => withHeap r fun r => k ((i, .tip s) :: r)
    | .map es => withHeap r fun r => k ((i, .map es) :: r)
    | .loop en kk ps as bo st => withHeap r fun r => k ((i, .loop en kk ps as bo st) :: r)

theorem withHeap_eq (h : Heap) (k : Heap → R) : withHeap h k = k h := by
  induction h generalizing k with
  | nil => rfl
  | cons p r ih =>
    obtain ⟨i, o⟩ := p
    cases o <;> simp [withHeap, withCells_eq, ih]

/-- Renaming, written out. -/
def rhoK (nx : Nat) (names : List Nat) (i : Nat) (k : Nat → R) : R :=
  match names with
  | [] => k (nx + i)
  | n :: r => match i with
    | 0 => k n
    | i + 1 => rhoK nx r i k

theorem rhoK_eq (nx : Nat) : ∀ (names : List Nat) (i : Nat) (k : Nat → R), rhoK nx names i k = k (rho nx names i)
  | [], i, k => rfl
  | n :: r, 0, k => rfl
  | n :: r, i + 1, k => rhoK_eq nx r i k

def renPK (nx : Nat) (names : List Nat) (p : Perm) (k : Perm → R) : R :=
  match p with
  | .none => k .none
  | .full => k .full
  | .zero => k .zero
  | .tok t s => rhoK nx names t fun t => k (.tok t s)

theorem renPK_eq (nx : Nat) (names : List Nat) (p : Perm) (k : Perm → R) : renPK nx names p k = k (renP (rho nx names) p) := by cases p <;> simp [renPK, renP, rhoK_eq]

def renK1 (nx : Nat) (names : List Nat) (a : AV) (k : AV → R) : R :=
  match a with
  | .ptr id off => rhoK nx names id fun id => k (.ptr id off)
  | .aptr id i => rhoK nx names id fun id => k (.aptr id i)
  | .sl p kk els => renPK nx names p fun p => k (.sl p kk (renL (rho nx names) els))
  | .arr id kk n => rhoK nx names id fun id => k (.arr id kk n)
  | .vec id kk n => rhoK nx names id fun id => k (.vec id kk n)
  | .map id => rhoK nx names id fun id => k (.map id)
  | .yld l => rhoK nx names l fun l => k (.yld l)
  | .ref v => k (.ref (ren (rho nx names) v))
  | .fn f l => k (.fn f (renL (rho nx names) l))
  | .iface t v => k (.iface t (ren (rho nx names) v))
  | .agg l => k (.agg (renL (rho nx names) l))
  | .tup l => k (.tup (renL (rho nx names) l))
  | a => force a k

theorem renK1_eq (nx : Nat) (names : List Nat) (a : AV) (k : AV → R) : renK1 nx names a k = k (ren (rho nx names) a) := by
  cases a <;> simp [renK1, ren, rhoK_eq, renPK_eq, force_eq]

def renLK (nx : Nat) (names : List Nat) (l : List AV) (k : List AV → R) : R :=
  match l with
  | [] => k []
  | a :: r => renK1 nx names a fun a => renLK nx names r fun r => k (a :: r)

theorem renLK_eq (nx : Nat) (names : List Nat) : ∀ (l : List AV) (k : List AV → R), renLK nx names l k = k (renL (rho nx names) l)
  | [], k => rfl
  | a :: r, k => by simp [renLK, renL, renK1_eq, renLK_eq nx names r]

def renK (nx : Nat) (names : List Nat) (a : AV) (k : AV → R) : R :=
  match a with
  | .agg l => renLK nx names l fun l => k (.agg l)
  | .tup l => renLK nx names l fun l => k (.tup l)
  | .fn f l => renLK nx names l fun l => k (.fn f l)
  | a => renK1 nx names a k

theorem renK_eq (nx : Nat) (names : List Nat) (a : AV) (k : AV → R) : renK nx names a k = k (ren (rho nx names) a) := by
  cases a <;> simp [renK, renLK_eq, renK1_eq, ren]

def renOK (nx : Nat) (names : List Nat) (o : AObj) (k : AObj → R) : R :=
  match o with
  | .cells l => renLK nx names l fun l => k (.cells l)
  | .tip s => k (.tip s)
  | .map es => k (.map (renE (rho nx names) es))
  | .loop en kk ps as bo st => k (.loop (renV (rho nx names) en) kk ps as bo st)

theorem renOK_eq (nx : Nat) (names : List Nat) (o : AObj) (k : AObj → R) : renOK nx names o k = k (renO (rho nx names) o) := by
  cases o <;> simp [renOK, renO, renLK_eq]

def keepK (nx : Nat) (names : List Nat) (h0 : Heap) (h : Heap) (k : Heap → R) : R :=
  match h with
  | [] => k []
  | (j, o) :: r => match idx j names with
    | some i => match get h0 i with
      | some o' => renOK nx names o' fun o' => keepK nx names h0 r fun r => k ((j, o') :: r)
      | none => keepK nx names h0 r k
    | none => keepK nx names h0 r fun r => k ((j, o) :: r)

theorem keepK_eq (nx : Nat) (names : List Nat) (h0 : Heap) : ∀ (h : Heap) (k : Heap → R), keepK nx names h0 h k = k (keepH nx names h0 h)
  | [], k => rfl
  | (j, o) :: r, k => by
    unfold keepK keepH
    cases idx j names with
    | none => exact keepK_eq nx names h0 r _
    | some i =>
      simp only
      cases get h0 i with
      | none => exact keepK_eq nx names h0 r k
      | some o' => simp only [renOK_eq]; exact keepK_eq nx names h0 r _

def newK (nx : Nat) (names : List Nat) (rest : Heap) (h0 : Heap) (k : Heap → R) : R :=
  match h0 with
  | [] => k rest
  | (i, o) :: r => bif Nat.blt i names.length then newK nx names rest r k else rhoK nx names i fun i => renOK nx names o fun o => newK nx names rest r fun r => k ((i, o) :: r)

theorem newK_eq (nx : Nat) (names : List Nat) (rest : Heap) : ∀ (h0 : Heap) (k : Heap → R), newK nx names rest h0 k = k (newH nx names rest h0)
  | [], k => rfl
  | (i, o) :: r, k => by
    unfold newK newH
    cases Nat.blt i names.length with
    | true => exact newK_eq nx names rest r k
    | false => simp only [cond_false, rhoK_eq, renOK_eq]; exact newK_eq nx names rest r _

def mergeK (nx : Nat) (names : List Nat) (h h0 : Heap) (k : Heap → R) : R := keepK nx names h0 h fun r => newK nx names r h0 k

theorem mergeK_eq (nx : Nat) (names : List Nat) (h h0 : Heap) (k : Heap → R) : mergeK nx names h h0 k = k (mergeH nx names h h0) := by
  unfold mergeK mergeH
  rw [keepK_eq, newK_eq]

theorem renL_u8s (ρ : Nat → Nat) (l : List UInt8) : renL ρ (u8s l) = u8s l := by
  induction l with
  | nil => rfl
  | cons c l ih =>
    show ren ρ (u8 c) :: renL ρ (u8s l) = u8 c :: u8s l
    rw [ih]; rfl

theorem ren_u8s (ρ : Nat → Nat) (p : Perm) (l : List UInt8) : ren ρ (.sl p 0 (u8s l)) = .sl (renP ρ p) 0 (u8s l) := by
  show AV.sl (renP ρ p) 0 (renL ρ (u8s l)) = _
  rw [renL_u8s]

theorem cut_ok {n nx : Nat} {p : Perm} {l : List UInt8} (h : renP (cut n nx) p = p) : ren (cut n nx) (.sl p 0 (u8s l)) = .sl p 0 (u8s l) := by rw [ren_u8s, h]

theorem Le.of_eq {h : Heap} {a b : AV} (e : a = b) : Le h a b := e ▸ Le.refl h a

/-- The size of what is appended. -/
theorem sizeOk {n b : Nat} (k : Nat) (hb : b = k) (h : n * k ≤ 140737488355328) : (n : Int) * (b : Int) ≤ 140737488355328 := by
  subst hb
  have : ((n * b : Nat) : Int) ≤ 140737488355328 := by omega
  simpa using this

/-- A call, by a contract: the caller's names of the contract's names given. -/
theorem holds_call {f : FuncId} {args args0 : List AV} {h h0 : Heap} {nx : Nat} {k : AV → Heap → Nat → R} {K0 : AV → Heap → Nat → Prop} (names : List Nat) (c : CallOK P f args0 h0 names.length K0)
    (hok : okNames nx names = true) (hsub : Sub nx names h h0) (hargs : args = renL (rho nx names) args0)
    (hk : ∀ a0 h0' m', K0 a0 h0' m' → holds P Q K (renK nx names a0 fun a => mergeK nx names h h0' fun h => k a h (nx + (m' - names.length)))) :
    holds P Q K (.call f args h nx k) :=
  c.frame hok hsub hargs fun a0 h0' m' hK0 => by
    have := hk a0 h0' m' hK0
    rw [renK_eq, mergeK_eq] at this
    exact this

/-- Told otherwise ahead of a call. -/
theorem CallOK.pre {K : AV → Heap → Nat → Prop} {f : FuncId} {args args' : List AV} {h h' : Heap} {nx nx' : Nat} (hg : Gh nx (fun i => args.getD i .top) h nx (fun i => args'.getD i .top) h' nx') (hl : args'.length = args.length)
    (c : CallOK P f args' h' nx' K) : CallOK P f args h nx K := by
  refine ⟨c.1, fun F V w vs hi hf hr => ?_⟩
  obtain ⟨_, hg⟩ := hg (Nat.le_refl _)
  have hlen := hr.length
  obtain ⟨F', V', q1, q2, q3, q4, q5, q6, q7⟩ := hg F V w (fun i => vs.getD i undef) hi hf (fun i => by
    simp only [List.getD_eq_getElem?_getD]
    cases ha : args[i]? with
    | none => simp [rep]
    | some a => obtain ⟨x, hx, r⟩ := hr.get i a ha; rw [hx]; exact r)
  have hr' : repL F' V' args' vs := repL.of_get (by omega) fun i a x ha hx => by
    have := q7 i
    simp only [List.getD_eq_getElem?_getD, ha, hx, Option.getD_some] at this
    exact this
  refine (c.2 F' V' w vs q5 q6 hr').mono ?_
  rintro e w' ⟨v, F2, V2, a, h2, nx2, rfl, hs, hi2, hf2, hrep, hk⟩
  exact ⟨v, F2, V2, a, h2, nx2, rfl, ((Step.refl F V h w).ghost hf q1 q2 q3 q4).trans hs, hi2, hf2, hrep, hk⟩

theorem holds_pre {f : FuncId} {args args' : List AV} {h h' : Heap} {nx nx' : Nat} {k : AV → Heap → Nat → R} (hg : Gh nx (fun i => args.getD i .top) h nx (fun i => args'.getD i .top) h' nx') (hl : args'.length = args.length)
    (hh : holds P Q K (.call f args' h' nx' k)) : holds P Q K (.call f args h nx k) := CallOK.pre hg hl hh

def ArgsLe (h : Heap) : List AV → List AV → Prop
  | [], [] => True
  | a :: l, b :: m => Le h a b ∧ ArgsLe h l m
  | _, _ => False

theorem ArgsLe.get {h : Heap} : ∀ {l m : List AV}, ArgsLe h l m → ∀ i, Le h (l.getD i .top) (m.getD i .top)
  | [], [], _, i => Le.refl _ _
  | a :: l, b :: m, ⟨h1, h2⟩, 0 => h1
  | a :: l, b :: m, ⟨h1, h2⟩, i + 1 => by simpa using ArgsLe.get h2 i
theorem ArgsLe.length {h : Heap} : ∀ {l m : List AV}, ArgsLe h l m → m.length = l.length
  | [], [], _ => rfl
  | a :: l, b :: m, ⟨_, h2⟩ => by simp [ArgsLe.length h2]

/-- Arguments told otherwise. -/
theorem holds_args {f : FuncId} {args args' : List AV} {h : Heap} {nx : Nat} {k : AV → Heap → Nat → R} (hl : ArgsLe h args args')
    (hh : holds P Q K (.call f args' h nx k)) : holds P Q K (.call f args h nx k) :=
  holds_pre (Gh.le (ArgsLe.get hl) fun id o hg => ⟨o, hg, LeO.refl _ _⟩) hl.length hh

/-- What holds outright holds under a condition. -/
theorem ctxP_of {rs : RS} {full : List (Nat × Bool)} {c : Prop} (h : c) : ∀ {l : List (Nat × Bool)}, ctxP rs full c l
  | [] => h
  | (s, w) :: r => by
    unfold ctxP
    split
    · rename_i cs b _
      cases subCtx rs full cs with
      | true => exact fun _ => ctxP_of h
      | false => exact ctxP_of h
    · exact ctxP_of h

/-- A contract whose answer is told outright. -/
abbrev Out (a : AV) (h : Heap) (m : Nat) : AV → Heap → Nat → Prop := fun a' h' m' => a' = a ∧ h' = h ∧ m' = m

theorem holds_out {f : FuncId} {args args0 : List AV} {h h0 : Heap} {nx : Nat} {k : AV → Heap → Nat → R} {a1 : AV} {h1 : Heap} {m1 : Nat} (names : List Nat) (c : CallOK P f args0 h0 names.length (Out a1 h1 m1))
    (hok : okNames nx names = true) (hsub : Sub nx names h h0) (hargs : args = renL (rho nx names) args0)
    (hk : holds P Q K (renK nx names a1 fun a => mergeK nx names h h1 fun h => k a h (nx + (m1 - names.length)))) :
    holds P Q K (.call f args h nx k) :=
  holds_call names c hok hsub hargs fun a0 h0' m' ⟨e1, e2, e3⟩ => by subst e1; subst e2; subst e3; exact hk

theorem CallOK.told {f : FuncId} {args : List AV} {h : Heap} {nx : Nat} {a a' : AV} {h1 h1' : Heap} {m m' : Nat} (c : CallOK P f args h nx (Out a h1 m)) (hle : nx ≤ m) (hg : Gh nx (fun _ => a) h1 m (fun _ => a') h1' m') : CallOK P f args h nx (Out a' h1' m') :=
  c.ghost fun x y z ⟨e1, e2, e3⟩ => by subst e1; subst e2; subst e3; exact ⟨a', h1', m', hle, hg, rfl, rfl, rfl⟩

theorem fin_exit {ι : Type} {m : Nat} {inv : ι → St} {μ : ι → Nat} {i : ι} {n : Nat} {s : St} (h : Q (.exit n) s) : holds P (RoundG m inv μ Q i) K (.fin (.exit n) s) := h
theorem fin_ret {ι : Type} {m : Nat} {inv : ι → St} {μ : ι → Nat} {i : ι} {s : St} (h : Q .ret s) : holds P (RoundG m inv μ Q i) K (.fin .ret s) := h
theorem fin_next {ι : Type} {m : Nat} {inv : ι → St} {μ : ι → Nat} {i : ι} {s : St} (h : ∃ j, μ j < μ i ∧ WkG m s (inv j)) : holds P (RoundG m inv μ Q i) K (.fin .normal s) := h

theorem ret_in {a : AV} {h : Heap} {nx : Nat} (hk : K a h nx) : holds P Q K (.ret a h nx) := hk

/-- The ranges over functions in code, in order. -/
def rfs : Code → List (List Nat × Code × Code)
  | .seq a b => rfs a ++ rfs b
  | .cond _ a b => rfs a ++ rfs b
  | .block _ b => rfs b
  | .loop b => rfs b
  | .scope b => rfs b
  | .rangeFunc _ ps a b => (ps.toList, a, b) :: rfs b
  | _ => []
def rfN (fn : Func) (i : Nat) : List Nat × Code × Code :=
  match fn.body with
  | some c => match (rfs c)[i]? with
    | some x => x
    | none => ([], .skip, .skip)
  | none => ([], .skip, .skip)
/-- A record of the i-th range over a function in a function. -/
abbrev loopOf (fn : Func) (i : Nat) (en : List (Nat × AV)) (k : Nat) (st : LSt) : AObj := .loop en k (rfN fn i).1 (rfN fn i).2.1 (rfN fn i).2.2 st

/-- An answer that may be told so. -/
abbrev OutLe (a : AV) (h : Heap) (m : Nat) : AV → Heap → Nat → Prop := fun a' h' m' => Le h' a' a ∧ h' = h ∧ m' = m

theorem CallOK.le {f : FuncId} {args : List AV} {h : Heap} {nx : Nat} {a : AV} {h1 : Heap} {m : Nat} (c : CallOK P f args h nx (OutLe a h1 m)) (hle : nx ≤ m := by decide) : CallOK P f args h nx (Out a h1 m) :=
  c.ghost fun x y z ⟨e1, e2, e3⟩ => by subst e2; subst e3; exact ⟨a, _, _, hle, Gh.le (fun _ => e1) (fun id o hg => ⟨o, hg, LeO.refl _ _⟩), rfl, rfl, rfl⟩

theorem Le.of_eq' {h : Heap} {a b : AV} (e : a = b) : Le h a b := e ▸ Le.refl h a

/-- Slots that are known, by list. -/
def EnvLe (h : Heap) (env : List (Nat × AV)) : List (Nat × AV) → Prop
  | [] => True
  | (t, v) :: r => Le h (look env t) v ∧ EnvLe h env r

theorem EnvLe.le {h : Heap} {env : List (Nat × AV)} : ∀ {env' : List (Nat × AV)}, EnvLe h env env' → ∀ t, Le h (look env t) (look env' t)
  | [], _, t => Le.top _ _
  | (i, v) :: r, hh, t => by
    rw [look_cons]
    by_cases e : t = i
    · subst e; simp only [if_true]; exact hh.1
    · simp only [if_neg e]; exact EnvLe.le hh.2 t

theorem LeO.loop {h : Heap} {en en' : List (Nat × AV)} {kk : Nat} {ps ps' : List Nat} {as as' bo bo' : Code} {st : LSt} (he : EnvLe h en en') (e1 : ps = ps') (e2 : as = as') (e3 : bo = bo') : LeO h (.loop en kk ps as bo st) (.loop en' kk ps' as' bo' st) :=
  ⟨he.le, rfl, e1, e2, e3, rfl⟩

def HeapLe (h : Heap) : Heap → Prop
  | [] => True
  | (id, o) :: r => (∃ o0, get h id = some o0 ∧ LeO h o0 o) ∧ HeapLe h r

theorem HeapLe.le {h : Heap} : ∀ {h' : Heap}, HeapLe h h' → ∀ id o', get h' id = some o' → ∃ o, get h id = some o ∧ LeO h o o'
  | [], _, id, o', hg => by simp [get] at hg
  | (j, o) :: r, hh, id, o', hg => by
    rw [get_cons'] at hg
    by_cases e : j = id
    · subst e
      simp only [if_true, Option.some.injEq] at hg
      subst hg
      exact hh.1
    · simp only [if_neg e] at hg
      exact HeapLe.le hh.2 id o' hg

/-- Names at n and above are borne by nothing. -/
def EnvCut (n nx : Nat) : List (Nat × AV) → Prop
  | [] => True
  | (_, v) :: r => ren (cut n nx) v = v ∧ EnvCut n nx r
def HeapCut (n nx : Nat) : Heap → Prop
  | [] => True
  | (id, o) :: r => (id < n ∧ renO (cut n nx) o = o) ∧ HeapCut n nx r

theorem EnvCut.look {n nx : Nat} : ∀ {env : List (Nat × AV)}, EnvCut n nx env → ∀ t, ren (cut n nx) (look env t) = look env t
  | [], _, t => rfl
  | (i, v) :: r, hh, t => by
    rw [look_cons]
    by_cases e : t = i
    · subst e; simp only [if_true]; exact hh.1
    · simp only [if_neg e]; exact EnvCut.look hh.2 t
theorem HeapCut.get {n nx : Nat} : ∀ {h : Heap}, HeapCut n nx h → ∀ id o, Go.Sym.get h id = some o → id < n ∧ renO (cut n nx) o = o
  | [], _, id, o, hg => by simp [Go.Sym.get] at hg
  | (j, x) :: r, hh, id, o, hg => by
    rw [get_cons'] at hg
    by_cases e : j = id
    · subst e
      simp only [if_true, Option.some.injEq] at hg
      subst hg
      exact hh.1
    · simp only [if_neg e] at hg
      exact HeapCut.get hh.2 id o hg

/-- A loop's next state: known slots, known objects; names at n' and above dropped. -/
theorem WkG.of {n n' : Nat} {env env' : List (Nat × AV)} {h h' : Heap} {nx : Nat} {sz : Sz} (hn : Nat.ble n nx = true) (hn' : Nat.ble n n' = true) (he : EnvLe h env env') (hh : HeapLe h h') (hc : EnvCut n' nx env') (hd : HeapCut n' nx h') : WkG n ⟨env, h, nx, sz⟩ ⟨env', h', n', sz⟩ :=
  ⟨Nat.le_of_ble_eq_true hn, rfl, (Gh.le he.le hh.le).trans (Gh.drop (Nat.le_of_ble_eq_true hn') hc.look hd.get)⟩

/-- The same, with a token for a nil slice. -/
theorem WkG.tok {n n' : Nat} {env env' : List (Nat × AV)} {h h' : Heap} {nx : Nat} {sz : Sz} (hn : Nat.ble n nx = true) (hn' : Nat.ble n n' = true) (he : EnvLe ((nx, .tip 0) :: h) env env') (hh : HeapLe ((nx, .tip 0) :: h) h') (hc : EnvCut n' (nx + 1) env') (hd : HeapCut n' (nx + 1) h') : WkG n ⟨env, h, nx, sz⟩ ⟨env', h', n', sz⟩ :=
  ⟨Nat.le_of_ble_eq_true hn, rfl, (Gh.token n _ _ _).trans ((Gh.le he.le hh.le).trans (Gh.drop (Nat.le_of_ble_eq_true hn') hc.look hd.get))⟩

/-- An answer told otherwise, names dropped. -/
theorem CallOK.less {f : FuncId} {args : List AV} {h : Heap} {nx : Nat} {a a' : AV} {h1 h1' : Heap} {m m' : Nat} (c : CallOK P f args h nx (Out a h1 m)) (hle : nx ≤ m) (hle' : nx ≤ m') (ha : Le h1 a a') (hh : HeapLe h1 h1') (hc : ren (cut m' m) a' = a') (hd : HeapCut m' m h1') : CallOK P f args h nx (Out a' h1' m') :=
  c.told hle ((Gh.le (fun _ => ha) hh.le).trans (Gh.drop hle' (fun _ => hc) hd.get))

/-- An answer that may be told so, names dropped. -/
def Fit (nx : Nat) (a' : AV) (h1 : Heap) (m1 : Nat) : AV → Heap → Nat → Prop := fun a h m => nx ≤ m ∧ Le h a a' ∧ HeapLe h h1 ∧ ren (cut m1 m) a' = a' ∧ HeapCut m1 m h1

theorem CallOK.fit {f : FuncId} {args : List AV} {h : Heap} {nx : Nat} {a' : AV} {h1 : Heap} {m1 : Nat} (hle : nx ≤ m1) (c : CallOK P f args h nx (Fit nx a' h1 m1)) : CallOK P f args h nx (Out a' h1 m1) :=
  c.ghost fun a h m ⟨q0, q1, q2, q3, q4⟩ => ⟨a', h1, m1, q0, (Gh.le (fun _ => q1) q2.le).trans (Gh.drop hle (fun _ => q3) q4.get), rfl, rfl, rfl⟩

end
end Go.Sym
