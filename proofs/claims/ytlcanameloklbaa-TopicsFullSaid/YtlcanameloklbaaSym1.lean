/-
  An abstract machine over tree values: its values, what they stand for in a world, and the state of a frame.
  No condition: these are definitions and plain lemmas.
-/
import Derived.Calls
import Derived.Below
import Derived.Laws.Cells
import Derived.Laws.World
import Derived.Laws.Sem
import Derived.RangeFuncLeaves
import Derived.RangeFuncRecord
import Derived.RangeFuncNested
import Derived.Laws.Slices
import Derived.Laws.Append
import Derived.Laws.MakeOwn
import Derived.Laws.Strings
import Derived.Laws.NewBlocks
import Derived.Laws.Strings2
import Derived.Laws.StructEq
import Derived.Lib.ConvBytes
import Derived.Laws.Build
import Derived.Laws.BytesArg
set_option linter.unusedVariables false
set_option linter.unusedSimpArgs false
namespace Go.Sym

/-- May a slice be appended to? none: not known; full: its capacity is its length; tok t s: so long as token t has stamp s, it ends where token t's free cells begin. -/
inductive Perm where
  | none | full | zero | tok (t s : Nat)

inductive AV where
  | top
  | bool (b : Bool)
  | bl (b : Bool)
  | int (k : IntKind) (n : Int)
  | str (s : List UInt8)
  | nilp | nils | nilm | nilf | nili
  | ptr (id off : Nat)
  | aptr (id i : Nat)
  | ref (v : AV)
  | sl (p : Perm) (k : Nat) (els : List AV)
  | arr (id k n : Nat)
  | vec (id k n c : Nat)
  | map (id : Nat)
  | fn (f : FuncId) (caps : List AV)
  | yld (l : Nat)
  | iface (t : TypeId) (v : AV)
  | agg (l : List AV)
  | tup (l : List AV)

abbrev Fix := Nat → Nat → Option Value

/-- A token: its block (none: it has none), where its free cells begin, its stamp, and where they end. -/
structure Tok where
  blk : Option Nat
  fr : Nat
  st : Nat
  lim : Nat

structure View where
  obj : Nat → Option Nat
  tok : Nat → Option Tok

def FixedAt (F : Fix) (b o : Nat) (vs : List Value) : Prop := ∀ i x, vs[i]? = some x → F b (o + i) = some x

def flat (vs : List Value) : List Value := vs.flatMap fun v => v.cells.toList

/-- How many cells an element takes: k is 0 for elements of one cell, else the number of a struct's cells. -/
def width (k : Nat) : Nat := if k = 0 then 1 else k

/-- Is the value an element of that kind? -/
def elemOk (k : Nat) (x : Value) : Prop := if k = 0 then x.oneCell' = true else ∃ cs, x = .agg cs ∧ cs.size = k ∧ ∀ c ∈ cs.toList, c.oneCell' = true

theorem elemOk.cells {k : Nat} {x : Value} (h : elemOk k x) : x.cells.size = width k := by
  unfold elemOk at h
  unfold width
  split at h
  · rename_i hk
    simp only [hk, if_true]
    cases x <;> simp_all [Value.oneCell', Value.cells]
  · rename_i hk
    obtain ⟨cs, rfl, rfl, -⟩ := h
    simp only [hk, if_false, Value.cells]

theorem elemOk.ones {k : Nat} {x : Value} (h : elemOk k x) : ∀ c ∈ x.cells.toList, c.oneCell' = true := by
  unfold elemOk at h
  split at h
  · intro c hc
    cases x <;> simp_all [Value.oneCell', Value.cells]
  · obtain ⟨cs, rfl, _, ho⟩ := h
    exact ho

theorem cells_one {x : Value} (h : x.oneCell' = true) : x.cells = #[x] := by
  cases x <;> simp_all [Value.oneCell', Value.cells]

def permOk (V : View) (p : Perm) (b o k len cap : Nat) : Prop :=
  match p with
  | .none => len ≤ cap
  | .full | .zero => cap = len
  | .tok t s => len ≤ cap ∧ ∃ x : Tok, V.tok t = some x ∧ s ≤ x.st ∧ (s = x.st → cap = len ∨ (x.blk = some b ∧ x.fr = o + len * width k ∧ o + cap * width k ≤ x.lim))

/-- The nil slice may be appended to: its length is its capacity. -/
def permNil (V : View) (p : Perm) : Prop :=
  match p with
  | .none | .full | .zero => True
  | .tok t s => ∃ x : Tok, V.tok t = some x ∧ s ≤ x.st

mutual
def rep (F : Fix) (V : View) : AV → Value → Prop
  | .top, _ => True
  | .bool b, v => v = .bool b
  | .bl b, v => v = .bool b
  | .int k n, v => v = .int k n
  | .str s, v => v = .string ⟨s.toArray⟩
  | .nilp, v => v = .pointer none
  | .nils, v => v = .slice none 0 0
  | .nilm, v => v = .map none
  | .nilf, v => v = .nilFunc
  | .nili, v => v = .nilIface
  | .ptr id off, v => ∃ b, V.obj id = some b ∧ v = .pointer (some ⟨b, off, none⟩)
  | .aptr id i, v => ∃ b, V.obj id = some b ∧ v = .pointer (some ⟨b, i, none⟩)
  | .ref a, v => ∃ b o x, v = .pointer (some ⟨b, o, none⟩) ∧ rep F V a x ∧ FixedAt F b o x.cells.toList
  | .sl p k els, v => (∃ b o cap vs, v = .slice (some ⟨b, o, none⟩) vs.length cap ∧ repL F V els vs ∧ (∀ x ∈ vs, elemOk k x) ∧ FixedAt F b o (flat vs) ∧ permOk V p b o k vs.length cap) ∨
      (els = [] ∧ (∃ a : Option Addr, v = .slice a 0 0) ∧ permNil V p)
  | .arr id _ n, v => ∃ b, V.obj id = some b ∧ v = .slice (some ⟨b, 0, none⟩) n n
  | .vec id _ n c, v => ∃ b, n ≤ c ∧ V.obj id = some b ∧ v = .slice (some ⟨b, 0, none⟩) n c
  | .map id, v => ∃ b, V.obj id = some b ∧ v = .map (some b)
  | .fn f caps, v => ∃ vs, v = .func (.func f) #[] vs.toArray ∧ repL F V caps vs
  | .yld l, v => ∃ b, V.obj l = some b ∧ v = .func (.yield b) #[] #[]
  | .iface t a, v => ∃ x, v = .iface t x ∧ rep F V a x
  | .agg l, v => ∃ vs, v = .agg vs.toArray ∧ repL F V l vs ∧ ∀ x ∈ vs, x.oneCell' = true
  | .tup l, v => ∃ vs, v = .tuple vs.toArray ∧ repL F V l vs
def repL (F : Fix) (V : View) : List AV → List Value → Prop
  | [], vs => vs = []
  | a :: l, vs => ∃ x r, vs = x :: r ∧ rep F V a x ∧ repL F V l r
end

/-- More cells are fixed; names stay; a token's stamp may rise. -/
structure Fix.le (F F' : Fix) : Prop where
  le : ∀ b o x, F b o = some x → F' b o = some x

structure View.le (V V' : View) : Prop where
  obj : ∀ id b, V.obj id = some b → V'.obj id = some b
  tok : ∀ t x, V.tok t = some x → ∃ y, V'.tok t = some y ∧ x.st ≤ y.st ∧ (x.st = y.st → y = x)

theorem Fix.le.refl (F : Fix) : F.le F := ⟨fun _ _ _ h => h⟩
theorem Fix.le.trans {F G H : Fix} (a : F.le G) (b : G.le H) : F.le H := ⟨fun _ _ _ h => b.le _ _ _ (a.le _ _ _ h)⟩
theorem View.le.refl (V : View) : V.le V := ⟨fun _ _ h => h, fun _ _ h => ⟨_, h, Nat.le_refl _, fun _ => rfl⟩⟩
theorem View.le.trans {U V W : View} (a : U.le V) (b : V.le W) : U.le W :=
  ⟨fun _ _ h => b.obj _ _ (a.obj _ _ h), fun t x h => by
    obtain ⟨y, h1, l1, e1⟩ := a.tok t x h
    obtain ⟨z, h2, l2, e2⟩ := b.tok t y h1
    refine ⟨z, h2, by omega, fun e => ?_⟩
    obtain rfl := e1 (by omega)
    exact e2 (by omega)⟩

theorem FixedAt.mono {F F' : Fix} (h : F.le F') {b o : Nat} {vs : List Value} (k : FixedAt F b o vs) : FixedAt F' b o vs :=
  fun i x e => h.le _ _ _ (k i x e)

theorem permOk.le {V : View} {p : Perm} {b o k len cap : Nat} (hp : permOk V p b o k len cap) : len ≤ cap := by
  cases p with
  | none => exact hp
  | full => exact Nat.le_of_eq hp.symm
  | zero => exact Nat.le_of_eq hp.symm
  | tok t s => exact hp.1

theorem permOk.mono {V V' : View} (h : V.le V') {p : Perm} {b o k len cap : Nat} (hp : permOk V p b o k len cap) : permOk V' p b o k len cap := by
  cases p with
  | none => exact hp
  | full => exact hp
  | zero => exact hp
  | tok t s =>
    obtain ⟨hl, x, ht, hs, he⟩ := hp
    obtain ⟨y, h2, l2, e2⟩ := h.tok t x ht
    refine ⟨hl, y, h2, by omega, fun e => ?_⟩
    obtain rfl := e2 (by omega)
    exact he (by omega)

theorem permNil.mono {V V' : View} (h : V.le V') {p : Perm} (hp : permNil V p) : permNil V' p := by
  cases p with
  | none => trivial
  | full => trivial
  | zero => trivial
  | tok t s =>
    obtain ⟨x, ht, hs⟩ := hp
    obtain ⟨y, h2, l2, -⟩ := h.tok t x ht
    exact ⟨y, h2, by omega⟩

mutual
theorem rep.mono {F F' : Fix} {V V' : View} (hF : F.le F') (hV : V.le V') : ∀ (a : AV) (v : Value), rep F V a v → rep F' V' a v
  | .top, _, _ => by simp [rep]
  | .bool _, _, h => by simpa [rep] using h
  | .bl _, _, h => by simpa [rep] using h
  | .int _ _, _, h => by simpa [rep] using h
  | .str _, _, h => by simpa [rep] using h
  | .nilp, _, h => by simpa [rep] using h
  | .nils, _, h => by simpa [rep] using h
  | .nilm, _, h => by simpa [rep] using h
  | .nilf, _, h => by simpa [rep] using h
  | .nili, _, h => by simpa [rep] using h
  | .ptr id off, v, h => by
    simp only [rep] at h ⊢
    obtain ⟨b, hb, rfl⟩ := h
    exact ⟨b, hV.obj _ _ hb, rfl⟩
  | .aptr id i, v, h => by
    simp only [rep] at h ⊢
    obtain ⟨b, hb, rfl⟩ := h
    exact ⟨b, hV.obj _ _ hb, rfl⟩
  | .ref a, v, h => by
    simp only [rep] at h ⊢
    obtain ⟨b, o, x, rfl, hx, hf⟩ := h
    exact ⟨b, o, x, rfl, rep.mono hF hV a x hx, hf.mono hF⟩
  | .sl p k els, v, h => by
    simp only [rep] at h ⊢
    rcases h with ⟨b, o, cap, vs, rfl, hl, hk, hf, hp⟩ | ⟨he, ha, hp⟩
    · exact .inl ⟨b, o, cap, vs, rfl, repL.mono hF hV els vs hl, hk, hf.mono hF, hp.mono hV⟩
    · exact .inr ⟨he, ha, hp.mono hV⟩
  | .arr id k n, v, h => by
    simp only [rep] at h ⊢
    obtain ⟨b, hb, rfl⟩ := h
    exact ⟨b, hV.obj _ _ hb, rfl⟩
  | .vec id k n c, v, h => by
    simp only [rep] at h ⊢
    obtain ⟨b, hc, hb, rfl⟩ := h
    exact ⟨b, hc, hV.obj _ _ hb, rfl⟩
  | .map id, v, h => by
    simp only [rep] at h ⊢
    obtain ⟨b, hb, rfl⟩ := h
    exact ⟨b, hV.obj _ _ hb, rfl⟩
  | .fn f caps, v, h => by
    simp only [rep] at h ⊢
    obtain ⟨vs, rfl, hl⟩ := h
    exact ⟨vs, rfl, repL.mono hF hV caps vs hl⟩
  | .yld l, v, h => by
    simp only [rep] at h ⊢
    obtain ⟨b, hb, rfl⟩ := h
    exact ⟨b, hV.obj _ _ hb, rfl⟩
  | .iface t a, v, h => by
    simp only [rep] at h ⊢
    obtain ⟨x, rfl, hx⟩ := h
    exact ⟨x, rfl, rep.mono hF hV a x hx⟩
  | .agg l, v, h => by
    simp only [rep] at h ⊢
    obtain ⟨vs, rfl, hl, ho⟩ := h
    exact ⟨vs, rfl, repL.mono hF hV l vs hl, ho⟩
  | .tup l, v, h => by
    simp only [rep] at h ⊢
    obtain ⟨vs, rfl, hl⟩ := h
    exact ⟨vs, rfl, repL.mono hF hV l vs hl⟩
theorem repL.mono {F F' : Fix} {V V' : View} (hF : F.le F') (hV : V.le V') : ∀ (l : List AV) (vs : List Value), repL F V l vs → repL F' V' l vs
  | [], _, h => by simpa [repL] using h
  | a :: l, vs, h => by
    simp only [repL] at h ⊢
    obtain ⟨x, r, rfl, hx, hr⟩ := h
    exact ⟨x, r, rfl, rep.mono hF hV a x hx, repL.mono hF hV l r hr⟩
end

section lists
variable {F : Fix} {V : View}
theorem repL.length : ∀ {l : List AV} {vs : List Value}, repL F V l vs → l.length = vs.length
  | [], _, h => by simp only [repL] at h; simp [h]
  | a :: l, vs, h => by
    simp only [repL] at h
    obtain ⟨x, r, rfl, _, hr⟩ := h
    simp [repL.length hr]
theorem repL.get : ∀ {l : List AV} {vs : List Value}, repL F V l vs → ∀ (i : Nat) (a : AV), l[i]? = some a → ∃ x, vs[i]? = some x ∧ rep F V a x
  | [], _, _, i, a, e => by simp at e
  | b :: l, vs, h, i, a, e => by
    simp only [repL] at h
    obtain ⟨x, r, rfl, hx, hr⟩ := h
    cases i with
    | zero => simp at e; subst e; exact ⟨x, by simp, hx⟩
    | succ i => simp at e; simpa using repL.get hr i a e
theorem repL.of_get : ∀ {l : List AV} {vs : List Value}, l.length = vs.length → (∀ (i : Nat) (a : AV) (x : Value), l[i]? = some a → vs[i]? = some x → rep F V a x) → repL F V l vs
  | [], vs, e, _ => by simp only [repL]; exact List.eq_nil_of_length_eq_zero e.symm
  | a :: l, [], e, _ => by simp at e
  | a :: l, x :: vs, e, h => by
    simp only [repL]
    exact ⟨x, vs, rfl, h 0 a x (by simp) (by simp), repL.of_get (by simpa using e) fun i b y hb hy => h (i + 1) b y (by simpa using hb) (by simpa using hy)⟩
theorem repL.append {l m : List AV} {vs ws : List Value} (h : repL F V l vs) (k : repL F V m ws) : repL F V (l ++ m) (vs ++ ws) := by
  refine repL.of_get (by simp [h.length, k.length]) fun i a x ha hx => ?_
  have hl := h.length
  by_cases hi : i < l.length
  · rw [List.getElem?_append_left hi] at ha
    rw [List.getElem?_append_left (by omega)] at hx
    obtain ⟨y, hy, r⟩ := h.get i a ha
    rw [hx] at hy; cases hy; exact r
  · rw [List.getElem?_append_right (by omega)] at ha hx
    rw [hl] at ha
    obtain ⟨y, hy, r⟩ := k.get _ a ha
    rw [hx] at hy; cases hy; exact r
theorem repL.drop {l : List AV} {vs : List Value} (h : repL F V l vs) (n : Nat) : repL F V (l.drop n) (vs.drop n) :=
  repL.of_get (by simp [h.length]) fun i a x ha hx => by
    rw [List.getElem?_drop] at ha hx
    obtain ⟨y, hy, r⟩ := h.get _ a ha
    rw [hx] at hy; cases hy; exact r
theorem repL.take {l : List AV} {vs : List Value} (h : repL F V l vs) (n : Nat) : repL F V (l.take n) (vs.take n) :=
  repL.of_get (by simp [h.length]) fun i a x ha hx => by
    rw [List.getElem?_take] at ha hx
    split at ha
    · rename_i hi
      simp only [hi, if_true] at hx
      obtain ⟨y, hy, r⟩ := h.get _ a ha
      rw [hx] at hy; cases hy; exact r
    · simp at ha
theorem repL.set {l : List AV} {vs : List Value} (h : repL F V l vs) (n : Nat) {a : AV} {x : Value} (r : rep F V a x) : repL F V (l.set n a) (vs.set n x) :=
  repL.of_get (by simp [h.length]) fun i b y hb hy => by
    have hl := h.length
    rw [List.getElem?_set] at hb hy
    by_cases e : n = i
    · subst e
      simp only [if_true] at hb hy
      split at hb
      · rename_i hn
        simp only [← hl, hn, if_true] at hy
        cases hb; cases hy; exact r
      · simp at hb
    · simp only [e, if_false] at hb hy
      obtain ⟨z, hz, r⟩ := h.get i b hb
      rw [hy] at hz; cases hz; exact r
end lists

/-- A loop over a function: may a round begin; does one go on; is it done, with a jump that waits? -/
inductive LSt where
  | ready | busy | done (c : Code)

def look (env : List (Nat × AV)) (t : Nat) : AV :=
  match env with
  | [] => .top
  | (i, v) :: r => bif Nat.beq i t then v else look r t

/-- What stands at a name: a row of cells (a variable, a struct, an array), a token's stamp, a map's entries (in the order in which they came), a loop over a function (what its rounds begin with). -/
inductive AObj where
  | cells (l : List AV)
  | tip (s : Nat)
  | map (es : List (AV × AV))
  | ment (es : List (AV × AV)) (j s : Nat)
  | mapN (es : List (AV × AV)) (bs : List Nat) (c : Nat)
  | iter (m since : Nat) (seen : List Nat) (last : Nat)
  | loop (env : List (Nat × AV)) (k : Nat) (ps : List Nat) (assign body : Code) (st : LSt)

def lstOk (st : LSt) (r : Loop) : Prop :=
  match st with
  | .ready => r.state = .ready ∧ r.pending = none
  | .busy => r.state = .busy ∧ r.pending = none
  | .done c => r.state = .done ∧ r.pending = some c

abbrev Heap := List (Nat × AObj)

def get (h : Heap) (id : Nat) : Option AObj :=
  match h with
  | [] => none
  | (i, o) :: r => bif Nat.beq i id then some o else get r id

def own (V : View) (id : Nat) : AObj → Option Nat
  | .tip _ => (V.tok id).bind (·.blk)
  | _ => V.obj id

def Own (V : View) (h : Heap) (b : Nat) : Prop := ∃ id o, get h id = some o ∧ own V id o = some b

def objRep (F : Fix) (V : View) (w : World) (id : Nat) : AObj → Prop
  | .cells l => ∃ b vs e, V.obj id = some b ∧ w.heap[b]? = some (.cells vs e (0, 0)) ∧ repL F V l (vs.toList.take l.length) ∧ ∀ x ∈ vs.toList.take l.length, x.oneCell' = true
  | .tip s => ∃ x, V.tok id = some x ∧ x.st = s ∧ ∀ b, x.blk = some b → ∃ vs e z, w.heap[b]? = some (.cells vs e z) ∧ (∀ o, x.fr ≤ o → o < vs.size → ¬ (z.1 ≤ o ∧ o < z.2)) ∧ x.lim ≤ vs.size
  | .map es => ∃ b xs clock, V.obj id = some b ∧ w.heap[b]? = some (.map xs clock) ∧ repL F V (es.map (·.1)) (xs.toList.map (·.key)) ∧ repL F V (es.map (·.2)) (xs.toList.map (·.val)) ∧
      (∀ (i : Nat) (e : MapEntry), xs[i]? = some e → e.born < clock) ∧ (∀ (i j : Nat) (e e' : MapEntry), xs[i]? = some e → xs[j]? = some e' → i < j → e.born < e'.born)
  | .ment es j s => ∃ b xs clock, V.obj id = some b ∧ w.heap[b]? = some (.map xs clock) ∧ repL F V (es.map (·.1)) (xs.toList.map (·.key)) ∧ repL F V (es.map (·.2)) (xs.toList.map (·.val)) ∧
      (∀ (i : Nat) (e : MapEntry), xs[i]? = some e → e.born < clock) ∧ (∀ (i j : Nat) (e e' : MapEntry), xs[i]? = some e → xs[j]? = some e' → i < j → e.born < e'.born) ∧ ∃ e, xs[j]? = some e ∧ e.born = s
  | .mapN es bs c => ∃ b xs clock, V.obj id = some b ∧ w.heap[b]? = some (.map xs clock) ∧ repL F V (es.map (·.1)) (xs.toList.map (·.key)) ∧ repL F V (es.map (·.2)) (xs.toList.map (·.val)) ∧
      (∀ (i : Nat) (e : MapEntry), xs[i]? = some e → e.born < clock) ∧ (∀ (i j : Nat) (e e' : MapEntry), xs[i]? = some e → xs[j]? = some e' → i < j → e.born < e'.born) ∧ xs.toList.map (·.born) = bs ∧ clock = c
  | .iter m since seen last => ∃ b b2, ∃ _ : Unit, V.obj id = some b ∧ w.heap[b]? = some (.mapIter (some b2) since seen.reverse.toArray last) ∧ V.obj m = some b2
  | .loop env k ps assign body st => ∃ b r, V.obj id = some b ∧ w.heap[b]? = some (.loop r) ∧ r.params = ps.toArray ∧ r.assign = assign ∧ r.body = body ∧ r.tmps.size = k ∧ (∀ t, rep F V (look env t) (r.tmps.getD t undef)) ∧ lstOk st r

/-- Is the cell free for the name's writes? -/
def free (V : View) (id off : Nat) : AObj → Prop
  | .tip _ => ∃ x, V.tok id = some x ∧ x.fr ≤ off
  | _ => True

structure Inv (F : Fix) (V : View) (h : Heap) (w : World) : Prop where
  fixed : ∀ b o x, F b o = some x → w.cell? ⟨b, o, none⟩ = some x
  objs : ∀ id o, get h id = some o → objRep F V w id o
  nofix : ∀ id o b off, get h id = some o → own V id o = some b → free V id off o → F b off = none
  inj : ∀ id id' o o' b, get h id = some o → get h id' = some o' → own V id o = some b → own V id' o' = some b → id = id'

/-- What a piece of code does to everything but what it owns: nothing. -/
structure Step (F : Fix) (V : View) (h : Heap) (w : World) (F' : Fix) (V' : View) (h' : Heap) (w' : World) : Prop where
  fix : F.le F'
  view : V.le V'
  own : ∀ b, Own V' h' b → Own V h b ∨ w.heap.size ≤ b
  newfix : ∀ b o x, F' b o = some x → F b o = some x ∨ Own V h b ∨ w.heap.size ≤ b
  size : w.heap.size ≤ w'.heap.size
  touch : ∀ b, b < w.heap.size → ¬ Own V h b → w'.heap[b]? = w.heap[b]?
  os : w'.os = w.os
  tape : w'.tape = w.tape
  output : w'.output = w.output
  drawn : w.drawn ≤ w'.drawn

theorem Step.refl (F : Fix) (V : View) (h : Heap) (w : World) : Step F V h w F V h w :=
  ⟨.refl F, .refl V, fun _ k => .inl k, fun _ _ _ k => .inl k, Nat.le_refl _, fun _ _ _ => rfl, rfl, rfl, rfl, Nat.le_refl _⟩

theorem Step.trans {F F1 F2 : Fix} {V V1 V2 : View} {h h1 h2 : Heap} {w w1 w2 : World} (a : Step F V h w F1 V1 h1 w1) (b : Step F1 V1 h1 w1 F2 V2 h2 w2) : Step F V h w F2 V2 h2 w2 where
  fix := a.fix.trans b.fix
  view := a.view.trans b.view
  own := fun x k => by
    rcases b.own x k with k | k
    · exact a.own x k
    · exact .inr (Nat.le_trans a.size k)
  newfix := fun x o y k => by
    rcases b.newfix x o y k with k | k | k
    · exact a.newfix x o y k
    · rcases a.own x k with k | k
      · exact .inr (.inl k)
      · exact .inr (.inr k)
    · exact .inr (.inr (Nat.le_trans a.size k))
  size := Nat.le_trans a.size b.size
  touch := fun x hx hn => by
    rw [b.touch x (Nat.lt_of_lt_of_le hx a.size) (fun k => ?_), a.touch x hx hn]
    rcases a.own x k with k | k
    · exact hn k
    · omega
  os := b.os.trans a.os
  tape := b.tape.trans a.tape
  output := b.output.trans a.output
  drawn := Nat.le_trans a.drawn b.drawn

/-- A frame: how many slots; is it a round's, of which loop (a name)? -/
structure Sz where
  k : Nat
  ro : Option Nat

instance (k : Nat) : OfNat Sz k := ⟨⟨k, none⟩⟩

/-- A frame's abstract state: what is known of its slots; the objects by name; the next free name; how many slots there are. -/
structure St where
  env : List (Nat × AV)
  h : Heap
  nx : Nat
  sz : Sz

def fresh (V : View) (nx : Nat) : Prop := ∀ id, nx ≤ id → V.obj id = none ∧ V.tok id = none

/-- Deferred calls are marks of loops over functions: each of a block of its own, made in this call (from n0 on), that no name owns. -/
def Marks (n0 : Nat) (V : View) (h : Heap) (w : World) : List Deferred → Prop
  | [] => True
  | d :: ds => (∃ r, d = { target := .collected r, args := #[] } ∧ n0 ≤ r ∧ w.heap[r]? = some (.deferred (some [])) ∧ ¬ Own V h r ∧ ∀ d' ∈ ds, d' ≠ { target := .collected r, args := #[] }) ∧ Marks n0 V h w ds

theorem Marks.step {n0 : Nat} {F F' : Fix} {V V' : View} {h h' : Heap} {w w' : World} (s : Step F V h w F' V' h' w') : ∀ {ds : List Deferred}, Marks n0 V h w ds → Marks n0 V' h' w' ds
  | [], _ => trivial
  | d :: ds, ⟨⟨r, e, hn, hr, ho, hd⟩, k⟩ => by
    have hlt : r < w.heap.size := by
      rcases Nat.lt_or_ge r w.heap.size with h | h
      · exact h
      · simp [h] at hr
    refine ⟨⟨r, e, hn, by rw [s.touch r hlt ho]; exact hr, fun hh => ?_, hd⟩, Marks.step s k⟩
    rcases s.own r hh with h1 | h1
    · exact ho h1
    · omega

structure Rep (n0 : Nat) (F : Fix) (V : View) (s : St) (a : Act) (w : World) : Prop where
  defers : Marks n0 V s.h w a.defers
  size : a.tmps.size = s.sz.k
  env : ∀ t, rep F V (look s.env t) (a.tmps.getD t undef)
  inv : Inv F V s.h w
  fresh : fresh V s.nx

end Go.Sym

namespace Go.Sym

def u8 (c : UInt8) : AV := .int .u8 c.toNat
def u8s (l : List UInt8) : List AV := l.map u8

inductive AExit where
  | normal | exit (id : Nat) | ret

def AExit.exit' : AExit → Exit
  | .normal => .normal
  | .exit id => .exit id
  | .ret => .ret

/-- A call, from an abstract state: whatever the world, it returns, and K tells what. -/
def CallOK (P : Program) (f : FuncId) (args : List AV) (h : Heap) (nx : Nat) (K : AV → Heap → Nat → Prop) : Prop :=
  (∀ (args : Array Value) (w : World), (callFunc f args).run P w = .ok (.enter f args) w) ∧ ∀ F V w vs, Inv F V h w → fresh V nx → repL F V args vs → Calls P f vs.toArray w fun e w' =>
    ∃ v F' V' a h' nx', e = .returned v ∧ Step F V h w F' V' h' w' ∧ Inv F' V' h' w' ∧ fresh V' nx' ∧ rep F' V' a v ∧ K a h' nx'

/-- Any function may be entered; a round's frame is of the loop fr. -/
def wideR (fr : Option Nat) : Fence := { Fence.wide with round := fr }

/-- Of which loop is the frame, by its block? -/
def RoundOf (V : View) : Option Nat → Option Nat → Prop
  | none, fr => fr = none
  | some l, fr => ∃ b, V.obj l = some b ∧ fr = some b

/-- A piece of code, from an abstract state. -/
def Tri (P : Program) (c : Code) (s : St) (Q : AExit → St → Prop) : Prop :=
  ∀ n0 n fr F V a w, RoundOf V s.sz.ro fr → n0 ≤ w.heap.size → Rep n0 F V s a w → c.wpIn (wideR fr) n P (fun e a' w' => ∃ ae s' F' V', e = AExit.exit' ae ∧ s'.sz = s.sz ∧ Step F V s.h w F' V' s'.h w' ∧ Rep n0 F' V' s' a' w' ∧ Q ae s') a w

/-- A round of the loop l: whatever the world, it hands back whether there is to be another one, and KK tells what. -/
def RoundOK (P : Program) (l : Nat) (assign body : Code) (s : St) (KK : Bool → Heap → Nat → Prop) : Prop :=
  ∀ n F V fn tmps w b, V.obj l = some b → tmps.size = s.sz.k → (∀ t, rep F V (look s.env t) (tmps.getD t undef)) → Inv F V s.h w → fresh V s.nx →
    RoundIn Fence.wide n P b fn tmps assign body w fun e w' => ∃ v h' nx' F' V', e = .returned (.bool v) ∧ Step F V s.h w F' V' h' w' ∧ Inv F' V' h' w' ∧ fresh V' nx' ∧ KK v h' nx'

inductive R where
  | fin (e : AExit) (s : St)
  | ret (a : AV) (h : Heap) (nx : Nat)
  | need (c : Prop) (r : R)
  | nth (els : List AV) (i : Int) (k : AV → R)
  | bytes (els : List AV) (k : List UInt8 → R)
  | nthc (f : Prop → Prop) (els : List AV) (i : Int) (k : AV → R)
  | bytesc (f : Prop → Prop) (els : List AV) (k : List UInt8 → R)
  | any (c : Prop) (k : Bool → R)
  | born (k : Nat → R)
  | bornM (es : List (AV × AV)) (k : List Nat → Nat → R)
  | pick (es : List (AV × AV)) (bs seen : List Nat) (t : Nat → AV → AV → R) (e : Unit → R)
  | ent (es : List (AV × AV)) (bs : List Nat) (b : Nat) (k : AV → AV → R)
  | br (b : Bool) (t e : Unit → R)
  | alt (t e : Unit → R)
  | call (f : FuncId) (args : List AV) (h : Heap) (nx : Nat) (k : AV → Heap → Nat → R)
  | loop (body : Code) (s : St) (k : AExit → St → R)
  | round (l : Nat) (assign body : Code) (s : St) (k : Bool → Heap → Nat → R)
  | fail (why : String)

def holds (P : Program) (Q : AExit → St → Prop) (K : AV → Heap → Nat → Prop) : R → Prop
  | .fin e s => Q e s
  | .ret a h nx => K a h nx
  | .need c r => c ∧ holds P Q K r
  | .nth els i k => ∃ e, (0 ≤ i ∧ els[i.toNat]? = some e) ∧ holds P Q K (k e)
  | .bytes els k => ∃ l, els = u8s l ∧ holds P Q K (k l)
  | .nthc f els i k => ∃ e, f (0 ≤ i ∧ els[i.toNat]? = some e) ∧ holds P Q K (k e)
  | .bytesc f els k => ∃ l, f (els = u8s l) ∧ holds P Q K (k l)
  | .any c k => ∀ b, (b = true → c) → holds P Q K (k b)
  | .born k => ∀ n, holds P Q K (k n)
  | .bornM es k => ∀ bs c, bs.length = es.length → (∀ b ∈ bs, b < c) → bs.Pairwise (· < ·) → holds P Q K (k bs c)
  | .pick es bs seen t e => (∀ (i b : Nat) (kv : AV × AV), bs[i]? = some b → es[i]? = some kv → b ∉ seen → holds P Q K (t b kv.1 kv.2)) ∧ ((∀ b ∈ bs, b ∈ seen) → holds P Q K (e ()))
  | .ent es bs b k => ∃ (i : Nat) (kv : AV × AV), bs[i]? = some b ∧ es[i]? = some kv ∧ holds P Q K (k kv.1 kv.2)
  | .br b t e => (b = true → holds P Q K (t ())) ∧ (b = false → holds P Q K (e ()))
  | .alt t e => holds P Q K (t ()) ∨ holds P Q K (e ())
  | .call f args h nx k => CallOK P f args h nx fun a h' nx' => holds P Q K (k a h' nx')
  | .loop body s k => Tri P (.loop body) s fun e s' => holds P Q K (k e s')
  | .round l assign body s k => RoundOK P l assign body s fun b h nx => holds P Q K (k b h nx)
  | .fail _ => False

/-- What an operation that touches no named object answers. -/
inductive FR where
  | ok (v : AV)
  | okL (g : List AV → AV) (l : List AV)
  | need (c : Prop) (v : AV)
  | nth (els : List AV) (i : Int) (g : AV → FR)
  | bytes (els : List AV) (g : List UInt8 → AV)
  | any (c : Prop) (g : Bool → AV)
  | no (why : String)

def ofV : Value → AV
  | .bool b => .bl b
  | .int k n => .int k n
  | .string s => .str s.data.toList
  | .pointer none => .nilp
  | .slice none 0 0 => .nils
  | .map none => .nilm
  | .nilFunc => .nilf
  | .nilIface => .nili
  | .agg cs => match ofVs cs.toList with
    | some l => .agg l
    | none => .top
  | _ => .top
where
  ofVs : List Value → Option (List AV)
    | [] => some []
    | v :: l => match ofVs l with
      | none => none
      | some r => match v with
        | .bool b => some (.bl b :: r)
        | .int k n => some (.int k n :: r)
        | .string s => some (.str s.data.toList :: r)
        | .pointer none => some (.nilp :: r)
        | .slice none 0 0 => some (.nils :: r)
        | .map none => some (.nilm :: r)
        | .nilFunc => some (.nilf :: r)
        | .nilIface => some (.nili :: r)
        | .agg _ | .tuple _ => none
        | _ => some (.top :: r)

/-- Is it known to be a value of one cell? -/
def scalar : AV → Bool
  | .top | .agg _ | .tup _ => false
  | _ => true

/-- A value's cells. -/
def cellsOf : AV → Option (List AV)
  | .agg l => some l
  | .top | .tup _ => none
  | v => some [v]

def isAggT (P : Program) (t : TypeId) : Option Bool :=
  match P.underlying t with
  | some (.struct _) | some (.array _ _) => some true
  | some _ => some false
  | none => none

def sizeT (P : Program) (t : TypeId) : Option Nat :=
  match P.info? t with
  | some i => some i.size
  | none => none

def bytesT (P : Program) (t : TypeId) : Option Nat :=
  match P.info? t with
  | some i => some i.bytes
  | none => none

def zeroT (P : Program) (t : TypeId) : AV :=
  match P.info? t with
  | some i => match i.zero with
    | some v => ofV v
    | none => .top
  | none => .top

/-- The part of a row of cells that a variable of a type takes at a place, and what is made of it. -/
def partT (P : Program) (t : TypeId) (l : List AV) (off : Nat) (g : AV → AV) : FR :=
  match isAggT P t with
  | some true =>
    match sizeT P t with
    | some n => bif Nat.ble (off + n) l.length then .okL (fun l => g (.agg l)) ((l.drop off).take n) else .no "part"
    | none => .no "part"
  | some false => match l.drop off with
    | v :: _ => .ok (g v)
    | [] => .no "part"
  | none => .no "part"

def fieldT (P : Program) (s : TypeId) (f : Nat) : Option (TypeId × Nat) :=
  match P.underlying s with
  | some (.struct fs) => match fs.toList[f]? with
    | some x => match sizeT P x.type with
      | some 0 => none
      | some _ => some (x.type, x.offset)
      | none => none
    | none => none
  | _ => none

def elemT (P : Program) (t : TypeId) : Option TypeId :=
  match P.underlying t with
  | some (.slice e) => some e
  | _ => none

/-- The kind of a slice's elements: 0 for one cell, else how many cells a struct has. -/
def kindT (P : Program) (e : TypeId) : Option Nat :=
  match isAggT P e, sizeT P e with
  | some true, some (n + 1) => some (n + 1)
  | some false, some 1 => some 0
  | _, _ => none

def elemSize (P : Program) (t : TypeId) : Option Nat :=
  match elemT P t with
  | some e => kindT P e
  | none => none

def intOp (op : BinOp) (k : IntKind) (x y : Int) : FR :=
  match op with
  | .add => .ok (.int k (k.wrap (x + y)))
  | .sub => .ok (.int k (k.wrap (x - y)))
  | .mul => .ok (.int k (k.wrap (x * y)))
  | .quo => .need (y ≠ 0) (.int k (k.wrap (x.tdiv y)))
  | .rem => .need (y ≠ 0) (.int k (x.tmod y))
  | .and => .ok (.int k (k.wrap (BitVec.ofInt k.bits x &&& BitVec.ofInt k.bits y).toNat))
  | .or => .ok (.int k (k.wrap (BitVec.ofInt k.bits x ||| BitVec.ofInt k.bits y).toNat))
  | .xor => .ok (.int k (k.wrap (BitVec.ofInt k.bits x ^^^ BitVec.ofInt k.bits y).toNat))
  | .andNot => .ok (.int k (k.wrap (BitVec.ofInt k.bits x &&& ~~~ BitVec.ofInt k.bits y).toNat))
  | .eql => .ok (.bool (x == y))
  | .neq => .ok (.bool (x != y))
  | .lss => .ok (.bool (decide (x < y)))
  | .leq => .ok (.bool (decide (x ≤ y)))
  | .gtr => .ok (.bool (decide (x > y)))
  | .geq => .ok (.bool (decide (x ≥ y)))
  | _ => .no "intOp"

def strOp (op : BinOp) (x y : List UInt8) : FR :=
  match op with
  | .add => .need (((x.length + y.length : Nat) : Int) ≤ IntKind.i64.max) (.str (x ++ y))
  | .eql => .ok (.bool (x == y))
  | .neq => .ok (.bool !(x == y))
  | .lss => .ok (.bool (Op.bytesLess x y))
  | .leq => .ok (.bool (Op.bytesLess x y || x == y))
  | .gtr => .ok (.bool !(Op.bytesLess x y || x == y))
  | .geq => .ok (.bool !(Op.bytesLess x y))
  | _ => .no "strOp"

/-- '==' against nil; 'some': known; 'none': not of this kind. -/
inductive NilEq where
  | known (b : Bool) | unknown (els : List AV) | no

def nilEq (P : Program) (t : TypeId) (x y : AV) : NilEq :=
  match P.underlying t with
  | some (.pointer _) => match x, y with
    | .nilp, .nilp => .known true
    | .nilp, .ptr _ _ | .ptr _ _, .nilp => .known false
    | _, _ => .no
  | some (.slice _) => match x, y with
    | .nils, .nils => .known true
    | .nils, .arr _ _ _ | .arr _ _ _, .nils => .known false
    | .nils, .sl _ _ els | .sl _ _ els, .nils => .unknown els
    | _, _ => .no
  | some (.map _ _) => match x, y with
    | .nilm, .nilm => .known true
    | .nilm, .map _ | .map _, .nilm => .known false
    | _, _ => .no
  | some (.func _ _ _) => match x, y with
    | .nilf, .nilf => .known true
    | .nilf, .fn _ _ | .fn _ _, .nilf | .nilf, .yld _ | .yld _, .nilf => .known false
    | _, _ => .no
  | some (.interface _) => match x, y with
    | .nili, .iface _ _ | .iface _ _, .nili => .known false
    | _, _ => .no
  | _ => .no

def isBool : AV → Option Bool
  | .bool b | .bl b => some b
  | _ => none

def kindEq : IntKind → IntKind → Bool
  | .i8, .i8 | .i16, .i16 | .i32, .i32 | .i64, .i64 | .u8, .u8 | .u16, .u16 | .u32, .u32 | .u64, .u64 => true
  | _, _ => false

/-- Two structs of scalar fields, field by field. -/
def fieldsEq (P : Program) : List Field → Nat → List AV → List AV → Option Bool
  | [], _, [], [] => some true
  | f :: fs, n, a :: l, b :: m =>
    bif f.name != "_" && Nat.beq f.offset n then
      match fieldsEq P fs (n + 1) l m with
      | none => none
      | some r => match P.underlying f.type with
        | some (.int _) => match a, b with
          | .int k x, .int k' y => bif kindEq k k' then some (x == y && r) else none
          | _, _ => none
        | some .string => match a, b with
          | .str x, .str y => some (x == y && r)
          | _, _ => none
        | some .bool => match isBool a with
          | some x => match isBool b with
            | some y => some (x == y && r)
            | none => none
          | none => none
        | _ => none
    else none
  | _, _, _, _ => none

def structEq (P : Program) (t : TypeId) (a b : List AV) : Option Bool :=
  match P.underlying t with
  | some (.struct fs) => fieldsEq P fs.toList 0 a b
  | _ => none

/-- '==' or '!=', where whether they are equal is known. -/
def eqF (op : BinOp) (mk : Bool → AV) (b : Bool) : FR :=
  match op with
  | .eql => .ok (mk b)
  | .neq => .ok (mk !b)
  | _ => .no "=="
/-- The same, where something must hold of the type. -/
def eqFn (op : BinOp) (c : Prop) (mk : Bool → AV) (b : Bool) : FR :=
  match op with
  | .eql => .need c (mk b)
  | .neq => .need c (mk !b)
  | _ => .no "=="
def eqAsk (P : Program) (t : TypeId) : Prop := P.stoodInHeld t = false ∧ P.eqGuardType P.depth t = false
def anyF (op : BinOp) (c : Prop) : FR :=
  match op with
  | .eql => .any c fun b => .bool b
  | .neq => .any c fun b => .bool !b
  | _ => .no "=="

def binV (P : Program) (op : BinOp) (t : TypeId) (x y : AV) : FR :=
  match x with
  | .int k a => match y with
    | .int k' b => match op with
      | .shl => .need (0 ≤ b) (.int k (k.wrap (a * 2 ^ (min b.toNat k.bits))))
      | .shr => .need (0 ≤ b) (.int k (a.fdiv (2 ^ (min b.toNat k.bits))))
      | _ => bif kindEq k k' then intOp op k a b else .no "binV: kinds"
    | _ => .no "binV: int"
  | .str a => match y with
    | .str b => strOp op a b
    | _ => .no "binV: str"
  | .agg a => match y with
    | .agg b => match structEq P t a b with
      | some e => eqFn op (eqAsk P t) .bool e
      | none => .no "binV: agg"
    | _ => .no "binV: agg"
  | x => match isBool x with
    | some a => match isBool y with
      | some b => match P.underlying t with
        | some .bool => eqF op .bool (a == b)
        | _ => .no "binV: bool"
      | none => .no "binV: bool"
    | none => match nilEq P t x y with
      | .known b => eqF op .bl b
      | .unknown els => anyF op (els = [])
      | .no => .no "binV"

/-! Maps: keys are integers, texts, and structs of them. -/

def atomEq : AV → AV → Bool
  | .int _ a, .int _ b => a == b
  | .str a, .str b => a == b
  | _, _ => false
def atomsEq : List AV → List AV → Bool
  | a :: l, b :: m => atomEq a b && atomsEq l m
  | _, _ => true
/-- Are two keys the same? -/
def keyEq : AV → AV → Bool
  | .agg l, .agg m => atomsEq l m
  | a, b => atomEq a b

def findE : List (AV × AV) → AV → Option AV
  | [], _ => none
  | (a, v) :: r, k => bif keyEq k a then some v else findE r k
def setE : List (AV × AV) → AV → AV → List (AV × AV)
  | [], k, v => [(k, v)]
  | (a, x) :: r, k, v => bif keyEq k a then (a, v) :: r else (a, x) :: setE r k v
def delE : List (AV × AV) → AV → List (AV × AV)
  | [], _ => []
  | (a, x) :: r, k => bif keyEq k a then r else (a, x) :: delE r k

/-- The numbers of what is left. -/
def delB : List (AV × AV) → AV → List Nat → List Nat
  | (a, _) :: r, k, b :: bs => bif keyEq k a then bs else b :: delB r k bs
  | _, _, bs => bs
/-- Where a key stands, or would. -/
def idxE : List (AV × AV) → AV → Nat
  | [], _ => 0
  | (a, _) :: r, k => bif keyEq k a then 0 else idxE r k + 1
/-- Another value at a place. -/
def setJ : List (AV × AV) → Nat → AV → List (AV × AV)
  | [], _, _ => []
  | (a, _) :: r, 0, v => (a, v) :: r
  | e :: r, j + 1, v => e :: setJ r j v

/-- What '==' of two keys is, by their type. -/
def eqK (P : Program) (t : TypeId) : AV → AV → Option Bool
  | .agg l, .agg m => structEq P t l m
  | .int k a, .int k' b => match P.underlying t with
    | some (.int _) => bif kindEq k k' then some (a == b) else none
    | _ => none
  | .str a, .str b => match P.underlying t with
    | some .string => some (a == b)
    | _ => none
  | _, _ => none

/-- What an operation of a map asks of the key's type, and of the keys. -/
def mapAsk (P : Program) (t : TypeId) (es : List (AV × AV)) (k : AV) : Prop :=
  eqAsk P t ∧ eqK P t k k = some (keyEq k k) ∧ ∀ e ∈ es, eqK P t k e.1 = some (keyEq k e.1)

def mapT (P : Program) (t : TypeId) : Option (TypeId × TypeId) :=
  match P.underlying t with
  | some (.map k e) => some (k, e)
  | _ => none
def notTop : AV → Bool
  | .top => false
  | _ => true

def lookV (es : List (AV × AV)) (k z : AV) (ok : Bool) : AV :=
  match findE es k with
  | some v => bif ok then .tup [v, .bool true] else v
  | none => bif ok then .tup [z, .bool false] else z

def lookupF (P : Program) (t : TypeId) (m k : AV) (ok : Bool) (h : Heap) : FR :=
  match mapT P t with
  | none => .no "lookup"
  | some (kt, et) => bif notTop (zeroT P et) then
      match m with
      | .nilm => .need (mapAsk P kt [] k) (lookV [] k (zeroT P et) ok)
      | .map id => match get h id with
        | some (.map es) => .nth [lookV es k (zeroT P et) ok] 0 fun v => .need (mapAsk P kt es k) v
        | some (.ment es _ _) => .nth [lookV es k (zeroT P et) ok] 0 fun v => .need (mapAsk P kt es k) v
        | some (.mapN es _ _) => .nth [lookV es k (zeroT P et) ok] 0 fun v => .need (mapAsk P kt es k) v
        | _ => .no "lookup: no such object"
      | _ => .no "lookup: which"
    else .no "lookup: its zero"

def convV (P : Program) (src dst : TypeId) (x : AV) : FR :=
  match x with
  | .int _ n => match P.underlying dst with
    | some (.int k) => .ok (.int k (k.wrap n))
    | _ => .no "convert int"
  | .str s => match P.underlying dst with
    | some .string => .ok (.str s)
    | some (.slice e) => match P.underlying e with
      | some (.int .u8) => .ok (.sl .none 0 (u8s s))
      | _ => .no "convert"
    | _ => .no "convert str"
  | .nils => match P.underlying src, P.underlying dst with
    | some (.slice e), some .string => match P.underlying e with
      | some (.int .u8) => .ok (.str [])
      | _ => .no "convert"
    | _, _ => .no "convert"
  | .sl _ _ els => match P.underlying src, P.underlying dst with
    | some (.slice e), some .string => match P.underlying e with
      | some (.int .u8) => .bytes els fun l => .str l
      | _ => .no "convert"
    | _, _ => .no "convert"
  | _ => .no "convert"

def lenV (P : Program) (t : TypeId) (x : AV) : Option Int :=
  match P.underlying t with
  | some .string => match x with
    | .str s => some s.length
    | _ => none
  | some (.slice _) => match x with
    | .nils => some 0
    | .sl _ _ els => some els.length
    | .arr _ _ n => some n
    | .vec _ _ n _ => some n
    | _ => none
  | some (.map _ _) => match x with
    | .nilm => some 0
    | _ => none
  | _ => none

/-- x[lo:hi:max] of a slice of n elements. -/
def sliceV (x : AV) (lo hi mx : Option AV) : FR :=
  match x with
  | .str s => match mx with
    | some _ => .no "slice"
    | none => match lo, hi with
      | none, none => .ok (.str s)
      | some (.int _ l), none => .need (0 ≤ l ∧ l ≤ s.length) (.str (s.drop l.toNat))
      | none, some (.int _ h) => .need (0 ≤ h ∧ h ≤ s.length) (.str (s.take h.toNat))
      | some (.int _ l), some (.int _ h) => .need ((0 ≤ l ∧ l ≤ h) ∧ h ≤ s.length) (.str ((s.take h.toNat).drop l.toNat))
      | _, _ => .no "slice"
  | .nils => match lo, hi, mx with
    | none, none, none => .ok .nils
    | some (.int _ l), none, none => .need (l = 0) .nils
    | none, some (.int _ h), none => .need (h = 0) .nils
    | some (.int _ l), some (.int _ h), none => .need (l = 0 ∧ h = 0) .nils
    | none, some (.int _ h), some (.int _ m) => .need (h = 0 ∧ m = 0) .nils
    | _, _, _ => .no "slice"
  | .sl p k els => match lo, hi, mx with
    | none, none, none => .ok (.sl p k els)
    | some (.int _ l), none, none => .need (0 ≤ l ∧ l ≤ els.length) (.sl p k (els.drop l.toNat))
    | none, some (.int _ h), none => .need (0 ≤ h ∧ h ≤ els.length) (.sl .none k (els.take h.toNat))
    | some (.int _ l), some (.int _ h), none => .need ((0 ≤ l ∧ l ≤ h) ∧ h ≤ els.length) (.sl .none k ((els.take h.toNat).drop l.toNat))
    | none, some (.int _ h), some (.int _ m) => .need ((0 ≤ h ∧ h ≤ els.length) ∧ m = h) (.sl .full k (els.take h.toNat))
    | _, _, _ => .no "slice"
  | _ => .no "slice"

def minV : List AV → AV → AV
  | [], a => a
  | .int k y :: r, .int k' x => bif kindEq k k' then minV r (.int k' (if y < x then y else x)) else .top
  | _, _ => .top
def maxV : List AV → AV → AV
  | [], a => a
  | .int k y :: r, .int k' x => bif kindEq k k' then maxV r (.int k' (if y > x then y else x)) else .top
  | _, _ => .top

def partsV (place : Nat → Option (Nat × Nat)) (cells : List AV) : List (Nat × AV) → Option (List AV)
  | [] => some cells
  | (i, v) :: rest => match place i with
    | none => none
    | some (off, size) => match cellsOf v with
      | none => none
      | some cs => bif Nat.beq cs.length size then (bif Nat.ble (off + size) cells.length then partsV place (cells.take off ++ (cs ++ cells.drop (off + size))) rest else none) else none

def fieldsSized (P : Program) : List Field → Bool
  | [] => true
  | f :: r => (match sizeT P f.type with | some _ => true | none => false) && fieldsSized P r

def fieldPlaces (P : Program) (fs : List Field) (i : Nat) : Option (Nat × Nat) :=
  match fs[i]? with
  | some f => match sizeT P f.type with
    | some n => some (f.offset, n)
    | none => none
  | none => none

/-- A fresh slice's elements, some of them given. -/
def setEls (els : List AV) : List (Nat × AV) → List AV
  | [] => els
  | (i, v) :: r => setEls (els.set i v) r

/-- Is it an element of the kind? -/
def elemV (k : Nat) (v : AV) : Bool :=
  match k with
  | 0 => scalar v
  | n + 1 => match v with
    | .agg l => Nat.beq l.length (n + 1)
    | _ => false

/-- Is each part an element of the slice, of the right kind? -/
def partsOk (k len : Nat) : List (Nat × AV) → Bool
  | [] => true
  | (i, v) :: r => elemV k v && (Nat.blt i len && partsOk k len r)

/-- A slice that is made, by value. -/
def makeSliceF (P : Program) (t : TypeId) (l c : AV) : FR :=
  match elemT P t with
  | none => .no "makeSlice"
  | some e => match l with
    | .int _ n => match c with
      | .int _ m => match kindT P e, bytesT P e with
        | some k', some by_ => bif elemV k' (zeroT P e) then .need (0 ≤ n ∧ n = m ∧ n * by_ ≤ 281474976710656 ∧ n ≤ 9223372036854775807) (.sl .full k' (List.replicate n.toNat (zeroT P e))) else .no "makeSlice"
        | _, _ => .no "makeSlice"
      | _ => .no "makeSlice"
    | _ => .no "makeSlice"

def evs (ev : Operand → AV) : List Operand → List AV
  | [] => []
  | x :: r => ev x :: evs ev r
def evp (ev : Operand → AV) : List (Nat × Operand) → List (Nat × AV)
  | [] => []
  | (i, x) :: r => (i, ev x) :: evp ev r

def unF (op : UnOp) (a : AV) : FR :=
  match op, a with
  | .not, .bool b => .ok (.bool !b)
  | .not, .bl b => .ok (.bl !b)
  | .neg, .int k n => intOp .sub k 0 n
  | .xor, .int k n => intOp .xor k (if k.signed then -1 else k.max) n
  | _, _ => .no "unOp"

def fieldAddrF (P : Program) (s : TypeId) (a : AV) (f : Nat) : FR :=
  match fieldT P s f with
  | none => .no "fieldAddr"
  | some (t, off) => match a with
    | .ptr id o => .ok (.ptr id (o + off))
    | .aptr id i => .ok (.aptr id (i + off))
    | .ref v => match v with
      | .agg l => partT P t l off .ref
      | _ => .no "fieldAddr: agg"
    | _ => .no "fieldAddr"

def fieldF (P : Program) (s : TypeId) (a : AV) (f : Nat) : FR :=
  match fieldT P s f with
  | none => .no "field"
  | some (t, off) => match a with
    | .agg l => partT P t l off fun v => v
    | _ => .no "field"

def loadF (P : Program) (t : TypeId) (a : AV) (h : Heap) : FR :=
  match a with
  | .ptr id off => match get h id with
    | some (.cells l) => partT P t l off fun v => v
    | _ => .no "load: no such object"
  | .ref v => match isAggT P t with
    | some false => bif scalar v then .ok v else .no "load"
    | some true => match v, sizeT P t with
      | .agg l, some n => bif Nat.beq l.length n then .ok (.agg l) else .no "load"
      | _, _ => .no "load"
    | none => .no "load"
  | .aptr id i => match get h id with
    | some (.cells l) => match isAggT P t with
      | some false => .nth l i fun v => .ok v
      | _ => .no "load"
    | _ => .no "load: no such object"
  | _ => .no "load"

def indexF (P : Program) (t : TypeId) (a ia : AV) : FR :=
  match elemSize P t with
  | none => .no "indexAddr"
  | some sz => match ia with
    | .int _ n => match a with
      | .sl _ k els => bif Nat.beq k sz then .nth els n fun v => .ok (.ref v) else .no "indexAddr"
      | .arr id k len => bif Nat.beq k sz then .need (0 ≤ n ∧ n < len) (.aptr id (n.toNat * width k)) else .no "indexAddr"
      | .vec id k len _ => bif Nat.beq k sz then .need (0 ≤ n ∧ n < len) (.aptr id (n.toNat * width k)) else .no "indexAddr"
      | _ => .no "indexAddr"
    | _ => .no "indexAddr"

def indexStrF (P : Program) (t : TypeId) (a ia : AV) : FR :=
  match P.underlying t with
  | some .string => match a, ia with
    | .str s, .int _ n => .nth (u8s s) n fun v => .ok v
    | _, _ => .no "index"
  | _ => .no "index"

def buildF (P : Program) (t : TypeId) (parts : List (Nat × AV)) : FR :=
  match P.underlying t with
  | some (.struct fs) => match zeroT P t with
    | .agg z => bif fieldsSized P fs.toList then
        (match partsV (fieldPlaces P fs.toList) z parts with
        | some l => .okL .agg l
        | none => .no "build") else .no "build"
    | _ => .no "build"
  | _ => .no "build"

def buildSliceF (P : Program) (t : TypeId) (len : Nat) (parts : List (Nat × AV)) : FR :=
  match elemT P t with
  | none => .no "buildSlice"
  | some e => match kindT P e with
    | none => .no "buildSlice"
    | some k => bif Nat.ble (len * width k) 16777216 && (partsOk k len parts && elemV k (zeroT P e)) then
        (bif Nat.beq len 0 then .ok (.sl .zero k []) else .okL (fun l => .sl .full k l) (setEls (List.replicate len (zeroT P e)) parts)) else .no "buildSlice"

/-- Structs' parts one behind the other. -/
def partsA : AV → List AV
  | .agg l => l
  | a => [a]
def flatA (k : Nat) (l : List AV) : List AV :=
  match k with
  | 0 => l
  | _ => (l.map partsA).flatten

/-- The operations that touch no named object but to read it. -/
def fval (P : Program) (o : Op) (ev : Operand → AV) (h : Heap) : FR :=
  match o with
  | .move x | .assign x => .ok (ev x)
  | .binOp op t x y _ => binV P op t (ev x) (ev y)
  | .unOp op _ x => unF op (ev x)
  | .nilCheck x => match ev x with
    | .ptr id off => .ok (.ptr id off)
    | .ref v => .ok (.ref v)
    | _ => .no "nilCheck"
  | .fieldAddr s x f => fieldAddrF P s (ev x) f
  | .field s x f => fieldF P s (ev x) f
  | .load t a => loadF P t (ev a) h
  | .indexAddr t x i => indexF P t (ev x) (ev i)
  | .index t x i => indexStrF P t (ev x) (ev i)
  | .slice t x lo hi mx => match ev x with
    | .str s => match P.underlying t with
      | some .string => sliceV (.str s) (lo.map ev) (hi.map ev) (mx.map ev)
      | _ => .no "slice"
    | .sl p k els => match elemSize P t with
      | some sz => bif Nat.beq k sz then sliceV (.sl p k els) (lo.map ev) (hi.map ev) (mx.map ev) else .no "slice"
      | none => .no "slice"
    | .nils => match elemSize P t with
      | some _ => sliceV .nils (lo.map ev) (hi.map ev) (mx.map ev)
      | none => .no "slice"
    | _ => .no "slice"
  | .convert src dst x => match P.underlying src with
    | some _ => convV P src dst (ev x)
    | none => .no "convert"
  | .extract x i => match ev x with
    | .tup l => match l[i]? with
      | some v => .ok v
      | none => .no "extract"
    | _ => .no "extract"
  | .makeFunc (.func f) first captured => match first.toList with
    | [] => .okL (fun l => .fn f l) (evs ev captured.toList)
    | _ => .no "makeFunc"
  | .makeInterface t x => match P.underlying t with
    | some (.interface _) | none => .no "makeInterface"
    | some _ => .ok (.iface t (ev x))
  | .build t parts => buildF P t (evp ev parts.toList)
  | .buildSlice t len parts => buildSliceF P t len (evp ev parts.toList)
  | .makeSlice t l c => makeSliceF P t (ev l) (ev c)
  | .lookup t m k ok => lookupF P t (ev m) (ev k) ok h
  | .call { callee := .builtin .len, args, argTypes } => match args.toList, argTypes.toList with
    | [x], t :: _ => match lenV P t (ev x) with
      | some n => .ok (.int .i64 n)
      | none => match ev x, mapT P t with
        | .map id, some _ => match get h id with
          | some (.map es) => .ok (.int .i64 es.length)
          | some (.mapN es _ _) => .ok (.int .i64 es.length)
          | _ => .no "len: no such object"
        | _, _ => .no "len"
    | _, _ => .no "len"
  | .call { callee := .builtin .min, args, argTypes := _ } => match evs ev args.toList with
    | a :: r => match minV r a with
      | .int k n => .ok (.int k n)
      | _ => .no "min"
    | _ => .no "min"
  | .call { callee := .builtin .max, args, argTypes := _ } => match evs ev args.toList with
    | a :: r => match maxV r a with
      | .int k n => .ok (.int k n)
      | _ => .no "max"
    | _ => .no "max"
  | _ => .no "fval"

end Go.Sym

namespace Go.Sym

/-- A region's state: slots that are known; slots that are known where certain slots are true or false; the objects; the next name; how many slots. -/
structure RS where
  env : List (Nat × AV)
  cenv : List (Nat × List (Nat × Bool) × AV)
  h : Heap
  nx : Nat
  sz : Sz

def beqB : Bool → Bool → Bool
  | true, true | false, false => true
  | _, _ => false

def inCtx (ctx : List (Nat × Bool)) (s : Nat) (w : Bool) : Bool :=
  match ctx with
  | [] => false
  | (t, v) :: r => bif Nat.beq s t && beqB w v then true else inCtx r s w

def findC (cenv : List (Nat × List (Nat × Bool) × AV)) (t : Nat) : Option (List (Nat × Bool) × AV) :=
  match cenv with
  | [] => none
  | (i, c, v) :: r => bif Nat.beq i t then some (c, v) else findC r t

/-- Is a slot known to be w? -/
def known (rs : RS) (s : Nat) (w : Bool) : Bool :=
  match findC rs.cenv s with
  | some _ => false
  | none => match look rs.env s with
    | .bl b => beqB b w
    | _ => false

def subCtx (rs : RS) (ctx : List (Nat × Bool)) : List (Nat × Bool) → Bool
  | [] => true
  | (s, w) :: r => bif inCtx ctx s w || known rs s w then subCtx rs ctx r else false

def lookC (rs : RS) (ctx : List (Nat × Bool)) (t : Nat) : AV :=
  match findC rs.cenv t with
  | some (c, v) => bif subCtx rs ctx c then v else .top
  | none => look rs.env t

def evC (rs : RS) (ctx : List (Nat × Bool)) : Operand → AV
  | .tmp t => lookC rs ctx t
  | .const v => ofV v
  | .global _ => .top
  | .func f => .fn f []

def force (v : AV) (g : AV → R) : R :=
  match v with
  | .top => g .top
  | .bool b => g (.bool b)
  | .bl b => g (.bl b)
  | .int k n => g (.int k n)
  | .str s => g (.str s)
  | .nilp => g .nilp
  | .nils => g .nils
  | .nilm => g .nilm
  | .nilf => g .nilf
  | .nili => g .nili
  | .ptr a b => g (.ptr a b)
  | .aptr a b => g (.aptr a b)
  | .ref v => g (.ref v)
  | .sl p k l => g (.sl p k l)
  | .arr a b c => g (.arr a b c)
  | .vec a b c d => g (.vec a b c d)
  | .map a => g (.map a)
  | .fn f l => g (.fn f l)
  | .yld l => g (.yld l)
  | .iface t v => g (.iface t v)
  | .agg l => g (.agg l)
  | .tup l => g (.tup l)

/-- A short row of cells written out. -/
def withCells (l : List AV) (k : List AV → R) : R :=
  match l with
  | [] => k []
  | v :: r => force v fun v => withCells r fun r => k (v :: r)

def mentions (d : Nat) : List (Nat × Bool) → Bool
  | [] => false
  | (s, _) :: r => bif Nat.beq s d then true else mentions d r

/-- Does anything hang on the slot? -/
def hangs (d : Nat) : List (Nat × List (Nat × Bool) × AV) → Bool
  | [] => false
  | (_, c, _) :: r => bif mentions d c then true else hangs d r

def purge (d : Nat) : List (Nat × List (Nat × Bool) × AV) → List (Nat × List (Nat × Bool) × AV)
  | [] => []
  | (i, c, v) :: r => bif Nat.beq i d then purge d r else (i, c, v) :: purge d r

/-- The same, written out. -/
def purgeK (d : Nat) (l : List (Nat × List (Nat × Bool) × AV)) (k : List (Nat × List (Nat × Bool) × AV) → R) : R :=
  match l with
  | [] => k []
  | (i, c, v) :: r => bif Nat.beq i d then purgeK d r k else purgeK d r fun r => k ((i, c, v) :: r)

def putR (rs : RS) (ctx : List (Nat × Bool)) (d : Option Nat) (v : AV) (k : RS → R) : R :=
  match d with
  | none => k rs
  | some d => bif Nat.blt d rs.sz.k && (!(hangs d rs.cenv) && !(mentions d ctx)) then
      match rs with
      | ⟨env, cenv, h, nx, sz⟩ => purgeK d cenv fun cenv => match cenv with
        | [] => match ctx with
          | [] => force v fun v => k ⟨(d, v) :: env, [], h, nx, sz⟩
          | x :: y => force v fun v => k ⟨env, [(d, x :: y, v)], h, nx, sz⟩
        | z :: zs => match ctx with
          | [] => force v fun v => k ⟨(d, v) :: env, z :: zs, h, nx, sz⟩
          | x :: y => force v fun v => k ⟨env, (d, x :: y, v) :: z :: zs, h, nx, sz⟩
    else .fail "slot"

inductive G where
  | run (ctx : List (Nat × Bool)) | skip | bad

def fullC (rs : RS) (t : Nat) : List (Nat × Bool) × AV :=
  match findC rs.cenv t with
  | some x => x
  | none => ([], look rs.env t)

/-- Conditions without those that are known; none: one is known to fail. -/
def simpC (rs : RS) : List (Nat × Bool) → Option (List (Nat × Bool))
  | [] => some []
  | (s, w) :: r => bif known rs s w then simpC rs r else bif known rs s (!w) then none else match simpC rs r with
    | some c => some ((s, w) :: c)
    | none => none

def guardOf (all : List Oper) (o : Oper) (rs : RS) : G :=
  match o.guard with
  | none => .run []
  | some (j, want) => match all[j]? with
    | none => .bad
    | some oj => match oj.dst with
      | none => .bad
      | some sj => match fullC rs sj with
        | (c, v) => match simpC rs c with
          | none => .skip
          | some c => match v with
            | .bl b => bif beqB b want then .run c else .skip
            | .bool _ => .run ((sj, want) :: c)
            | _ => .bad

def ctxP (rs : RS) (full : List (Nat × Bool)) (c : Prop) : List (Nat × Bool) → Prop
  | [] => c
  | (s, w) :: r => match fullC rs s with
    | (cs, .bool b) => bif subCtx rs full cs then (b = w → ctxP rs full c r) else ctxP rs full c r
    | _ => ctxP rs full c r

def frR (f : Prop → Prop) : FR → (AV → R) → R
  | .ok v, k => k v
  | .okL g l, k => withCells l fun l => k (g l)
  | .need c v, k => .need (f c) (k v)
  | .nth els i g, k => .nthc f els i fun e => frR f (g e) k
  | .bytes els g, k => .bytesc f els fun l => k (g l)
  | .any c g, k => .any c fun b => k (g b)
  | .no why, _ => .fail why

def frR0 : FR → (AV → R) → R
  | .ok v, k => k v
  | .okL g l, k => withCells l fun l => k (g l)
  | .need c v, k => .need c (k v)
  | .nth els i g, k => .nth els i fun e => frR0 (g e) k
  | .bytes els g, k => .bytes els fun l => k (g l)
  | .any c g, k => .any c fun b => k (g b)
  | .no why, _ => .fail why

def pickV (c : AV) (a b : AV) : AV :=
  match c with
  | .bl true => a
  | .bl false => b
  | .bool x => match isBool a with
    | some p => match isBool b with
      | some q => .bool (bif x then p else q)
      | none => .top
    | none => .top
  | _ => .top

def tmpOf : Operand → Option Nat
  | .tmp t => some t
  | _ => none

/-- Are a literal's parts bytes? -/
def litB : List (Nat × Operand) → Bool
  | [] => true
  | (_, .const (.int .u8 _)) :: r => litB r
  | _ => false
def litP : List (Nat × Operand) → Bool
  | [] => false
  | l => litB l
/-- Is the type one of slices of bytes? -/
def bytesOf (P : Program) (t : TypeId) : Bool :=
  match P.underlying t with
  | some (.slice e) => match P.underlying e with
    | some (.int .u8) => true
    | _ => false
  | _ => false
theorem bytesOf_spec {P : Program} {t : TypeId} (h : bytesOf P t = true) : ∃ e, P.underlying t = some (.slice e) ∧ P.underlying e = some (.int .u8) := by
  unfold bytesOf at h
  split at h
  · rename_i e he
    split at h
    · exact ⟨e, he, by assumption⟩
    · cases h
  · cases h

def isEff : Op → Bool
  | .buildSlice _ _ parts => litP parts.toList
  | .range _ _ | .next _ _ | .entry _ => true
  | .convert a b _ => Nat.beq a b
  | .alloc _ | .box _ _ | .store _ _ _ | .makeMap _ _ | .mapUpdate _ _ _ _ | .mapEntry _ _ _ | .entryStore _ _ _ _ | .makeSlice _ _ _ => true
  | .call { callee := .builtin .len, .. } | .call { callee := .builtin .min, .. } | .call { callee := .builtin .max, .. } => false
  | .call _ => true
  | _ => false

/-- In one branch of a slot: it is known there. -/
def resolve (rs : RS) (s : Nat) (b : Bool) : RS :=
  match rs with
  | ⟨env, cenv, h, nx, sz⟩ => ⟨(s, .bl b) :: env, purge s cenv, h, nx, sz⟩

/-- Each condition on a slot (the outermost first) by cases; then the one or the other. -/
def splitR : List (Nat × Bool) → RS → (RS → R) → (RS → R) → R
  | [], rs, kr, _ => kr rs
  | (s, w) :: r, rs, kr, ks =>
    match fullC rs s with
    | (cs, .bool b) => bif subCtx rs [] cs then .br b
        (fun _ => bif w then splitR r (resolve rs s true) kr ks else ks (resolve rs s true))
        (fun _ => bif w then ks (resolve rs s false) else splitR r (resolve rs s false) kr ks)
      else .fail "split"
    | _ => .fail "split"

def upd : Heap → Nat → AObj → Heap
  | [], _, _ => []
  | (i, x) :: r, id, o => bif Nat.beq i id then (i, o) :: r else (i, x) :: upd r id o

def setAt : List AV → Nat → List AV → List AV
  | l, _, [] => l
  | [], _, _ => []
  | x :: l, n + 1, cs => x :: setAt l n cs
  | _ :: l, 0, c :: cs => c :: setAt l 0 cs

/-- A heap written out, its objects by name. -/
def withUpd (h : Heap) (id : Nat) (o : AObj) (k : Heap → R) : R :=
  match h with
  | [] => k []
  | (i, x) :: r => bif Nat.beq i id then k ((i, o) :: r) else withUpd r id o fun r => k ((i, x) :: r)

/-- What is appended: elements of the kind. -/
def appended (P : Program) (e : TypeId) (sz : Nat) (x : AV) : Option (List AV) :=
  match x with
  | .str t => match P.underlying e with
    | some (.int .u8) => bif Nat.beq sz 0 then some (u8s t) else none
    | _ => none
  | .nils => some []
  | .sl _ k els => bif Nat.beq k sz then some els else none
  | _ => none

/-- An object taken off a heap. -/
def withDel (h : Heap) (id : Nat) (k : Heap → R) : R :=
  match h with
  | [] => k []
  | (i, x) :: r => bif Nat.beq i id then withDel r id k else withDel r id fun r => k ((i, x) :: r)

def appendR (P : Program) (st : TypeId) (s x : AV) (rs : RS) (k : AV → RS → R) : R :=
  match elemT P st with
  | none => .fail "append"
  | some e => match kindT P e, bytesT P e with
    | some sz, some by_ =>
      bif !(Nat.blt 0 by_ && elemV sz (zeroT P e)) then .fail "append" else
      match appended P e sz x with
        | none => .fail "append: what"
        | some xs => match rs with
          | ⟨env, cenv, h, nx, n⟩ => match s with
            | .nils => .need ((xs.length : Int) * by_ ≤ 140737488355328) (k (.sl (.tok nx 0) sz xs) ⟨env, cenv, (nx, .tip 0) :: h, nx + 1, n⟩)
            | .sl .full k' els => bif Nat.beq k' sz then
                .need (((els ++ xs).length : Int) * by_ ≤ 140737488355328) (k (.sl (.tok nx 0) sz (els ++ xs)) ⟨env, cenv, (nx, .tip 0) :: h, nx + 1, n⟩)
              else .fail "append: size"
            | .sl .zero k' els => bif Nat.beq k' sz then
                .need (((els ++ xs).length : Int) * by_ ≤ 140737488355328) (.alt
                  (fun _ => k (.sl (.tok nx 0) sz (els ++ xs)) ⟨env, cenv, (nx, .tip 0) :: h, nx + 1, n⟩)
                  (fun _ => .need (0 < xs.length ∧ ∀ a ∈ els ++ xs, elemV sz a = true) (.born fun d => k (.vec nx sz (els ++ xs).length ((els ++ xs).length + d)) ⟨env, cenv, (nx, .cells (flatA sz (els ++ xs) ++ List.replicate (d * width sz) .top)) :: h, nx + 1, n⟩)))
              else .fail "append: size"
            | .sl (.tok t st) k' els => match get h t with
              | some (.tip st') => bif Nat.beq k' sz then
                  .need (st = st' ∧ ((els ++ xs).length : Int) * by_ ≤ 140737488355328) (withUpd h t (.tip (st + 1)) fun h => k (.sl (.tok t (st + 1)) sz (els ++ xs)) ⟨env, cenv, h, nx, n⟩)
                else .fail "append: a stale slice"
              | _ => .fail "append: token"
            | .vec id k' m c => match get h id with
              | some (.cells cs) => bif Nat.beq k' sz then
                  .need (cs.length = c * width sz ∧ 0 < xs.length ∧ ((m + xs.length : Nat) : Int) * by_ ≤ 140737488355328 ∧ ∀ a ∈ xs, elemV sz a = true)
                    (.born fun d => withDel h id fun h => k (.vec nx sz (m + xs.length) (m + xs.length + d)) ⟨env, cenv, (nx, .cells (cs.take (m * width sz) ++ flatA sz xs ++ List.replicate (d * width sz) .top)) :: h, nx + 1, n⟩)
                else .fail "append: size"
              | _ => .fail "append: row"
            | _ => .fail "append: to what"
    | _, _ => .fail "append"

/-- The loop's left sides in a round's slots: the last one counts. -/
def bindPs : List Nat → List AV → List (Nat × AV) → (List (Nat × AV) → R) → R
  | t :: ts, v :: vs, en, k => force v fun v => bindPs ts vs ((t, v) :: en) k
  | _, _, en, k => k en

def effR (P : Program) (o : Op) (rs : RS) (k : AV → RS → R) : R :=
  let ev := evC rs []
  match o with
  | .alloc e => match cellsOf (zeroT P e) with
    | some cs => withCells cs fun cs => match rs with | ⟨env, cenv, h, nx, n⟩ => k (.ptr nx 0) ⟨env, cenv, (nx, .cells cs) :: h, nx + 1, n⟩
    | none => .fail "alloc"
  | .box _ x => match cellsOf (ev x) with
    | some cs => withCells cs fun cs => match rs with | ⟨env, cenv, h, nx, n⟩ => k (.ptr nx 0) ⟨env, cenv, (nx, .cells cs) :: h, nx + 1, n⟩
    | none => .fail "box"
  | .store t a x => match cellsOf (ev x), sizeT P t with
    | some cs, some n => bif Nat.beq cs.length n then
        match ev a with
        | .ptr id off => match get rs.h id with
          | some (.cells l) => bif Nat.ble (off + n) l.length then withCells (setAt l off cs) fun l' => match rs with | ⟨env, cenv, h, nx, n⟩ => withUpd h id (.cells l') fun h => k (.tup []) ⟨env, cenv, h, nx, n⟩ else .fail "store"
          | _ => .fail "store: no such object"
        | .aptr id i => match get rs.h id, cs with
          | some (.cells l), [c] => .need (i < l.length) (match rs with | ⟨env, cenv, h, nx, n⟩ => force c fun c => withUpd h id (.cells (l.set i c)) fun h => k (.tup []) ⟨env, cenv, h, nx, n⟩)
          | _, _ => .fail "store: no such object"
        | _ => .fail "store: where"
      else .fail "store: size"
    | _, _ => .fail "store: what"
  | .makeSlice t l c => match elemT P t with
    | none => .fail "makeSlice"
    | some e => match ev l, ev c, kindT P e, bytesT P e with
      | .int _ n, .int _ m, some k', some by_ =>
        bif elemV k' (zeroT P e) then
        .need (0 ≤ n ∧ n = m ∧ n * by_ ≤ 281474976710656 ∧ n ≤ 9223372036854775807) (.alt
          (fun _ => k (.sl .full k' (List.replicate n.toNat (zeroT P e))) rs)
          (fun _ => match cellsOf (zeroT P e) with
            | some cs => match rs with | ⟨env, cenv, h, nx, z⟩ => k (.arr nx k' n.toNat) ⟨env, cenv, (nx, .cells (List.replicate n.toNat cs).flatten) :: h, nx + 1, z⟩
            | none => .fail "makeSlice"))
        else .fail "makeSlice"
      | _, _, _, _ => .fail "makeSlice"
  | .buildSlice t len parts => match elemT P t with
    | none => .fail "buildSlice"
    | some e => match kindT P e with
      | some 0 => bif Nat.ble (len * width 0) 16777216 && (partsOk 0 len (evp ev parts.toList) && elemV 0 (zeroT P e)) then
          .alt (fun _ => withCells (setEls (List.replicate len (zeroT P e)) (evp ev parts.toList)) fun l => k (.sl .full 0 l) rs)
            (fun _ => withCells (setEls (List.replicate len (zeroT P e)) (evp ev parts.toList)) fun l => match rs with | ⟨env, cenv, h, nx, z⟩ => k (.arr nx 0 len) ⟨env, cenv, (nx, .cells l) :: h, nx + 1, z⟩)
        else .fail "buildSlice"
      | _ => .fail "buildSlice"
  | .convert sr ds x => match ev x with
    | .arr id 0 n => match rs with
      | ⟨env, cenv, h, nx, z⟩ => match get h id with
        | some (.cells l) => bif Nat.beq sr ds && (Nat.beq l.length n && bytesOf P sr) then withDel h id fun h => k (.sl .full 0 l) ⟨env, cenv, h, nx, z⟩ else .fail "convert"
        | _ => .fail "convert: no such object"
    | _ => frR0 (fval P o ev rs.h) fun v => k v rs
  | .makeMap t r => match mapT P t, r with
    | some _, none => match rs with | ⟨env, cenv, h, nx, n⟩ => k (.map nx) ⟨env, cenv, (nx, .map []) :: h, nx + 1, n⟩
    | _, _ => .fail "makeMap"
  | .mapUpdate t m x v => match mapT P t with
    | none => .fail "mapUpdate"
    | some (kt, _) => match ev m with
      | .map id => match get rs.h id with
        | some (.map es) => .need (mapAsk P kt es (ev x)) (match rs with | ⟨env, cenv, h, nx, n⟩ => withUpd h id (.map (setE es (ev x) (ev v))) fun h => k (.tup []) ⟨env, cenv, h, nx, n⟩)
        | _ => .fail "mapUpdate: no such object"
      | _ => .fail "mapUpdate: which"
  | .range t m => match mapT P t with
    | none => .fail "range"
    | some _ => match ev m with
      | .map id => match get rs.h id with
        | some (.map es) => .bornM es fun bs c => match rs with | ⟨env, cenv, h, nx, n⟩ => withUpd h id (.mapN es bs c) fun h => k (.ptr nx 0) ⟨env, cenv, (nx, .iter id c [] c) :: h, nx + 1, n⟩
        | some (.mapN _ _ c) => match rs with | ⟨env, cenv, h, nx, n⟩ => k (.ptr nx 0) ⟨env, cenv, (nx, .iter id c [] c) :: h, nx + 1, n⟩
        | _ => .fail "range: no such object"
      | _ => .fail "range: which"
  | .next it false => match ev it with
    | .ptr id 0 => match get rs.h id with
      | some (.iter m since seen last) => match get rs.h m with
        | some (.mapN es bs c) => .need ((∀ b ∈ bs, b < since) ∧ (seen = [] ∨ es = [] ∨ ∃ b ∈ bs, b < last))
            (.pick es bs seen (fun b x v => match rs with | ⟨env, cenv, h, nx, n⟩ => withUpd h id (.iter m since (b :: seen) c) fun h => k (.tup [.bl true, x, v]) ⟨env, cenv, h, nx, n⟩) (fun _ => k (.tup [.bl false]) rs))
        | _ => .fail "next: no such map"
      | _ => .fail "next: no such object"
    | _ => .fail "next: which"
  | .entry it => match ev it with
    | .ptr id 0 => match get rs.h id with
      | some (.iter m _ seen last) => match get rs.h m with
        | some (.mapN es bs c) => match seen with
          | b :: _ => .need (c = last) (.ent es bs b fun x v => k (.tup [x, v]) rs)
          | [] => .fail "entry: none"
        | _ => .fail "entry: no such map"
      | _ => .fail "entry: no such object"
    | _ => .fail "entry: which"
  | .mapEntry t m x => match mapT P t with
    | none => .fail "mapEntry"
    | some (kt, et) => bif notTop (zeroT P et) then
      match ev m with
      | .map id => match get rs.h id with
        | some (.map es) => .need (mapAsk P kt es (ev x)) (.nth [lookV es (ev x) (zeroT P et) false] 0 fun v => .born fun s => match rs with | ⟨env, cenv, h, nx, n⟩ => withUpd h id (.ment (setE es (ev x) v) (idxE es (ev x)) s) fun h => k (.tup [v, .int .i64 s]) ⟨env, cenv, h, nx, n⟩)
        | _ => .fail "mapEntry: no such object"
      | _ => .fail "mapEntry: which"
      else .fail "mapEntry"
  | .entryStore _ m s x => match ev m with
      | .map id => match get rs.h id with
        | some (.ment es j n) => match ev s with
          | .int _ n' => .need (n' = (n : Int)) (match rs with | ⟨env, cenv, h, nx, sz⟩ => withUpd h id (.map (setJ es j (ev x))) fun h => k (.tup []) ⟨env, cenv, h, nx, sz⟩)
          | _ => .fail "entryStore: which"
        | _ => .fail "entryStore: no such object"
      | _ => .fail "entryStore: which"
  | .call { callee := .builtin .delete, args, argTypes } => match args.toList, argTypes.toList with
    | [m, x], t :: _ => match mapT P t with
      | none => .fail "delete"
      | some (kt, _) => match ev m with
        | .nilm => .need (mapAsk P kt [] (ev x)) (k (.tup []) rs)
        | .map id => match get rs.h id with
          | some (.map es) => .need (mapAsk P kt es (ev x)) (match rs with | ⟨env, cenv, h, nx, n⟩ => withUpd h id (.map (delE es (ev x))) fun h => k (.tup []) ⟨env, cenv, h, nx, n⟩)
          | some (.mapN es bs c) => .need (mapAsk P kt es (ev x)) (match rs with | ⟨env, cenv, h, nx, n⟩ => withUpd h id (.mapN (delE es (ev x)) (delB es (ev x) bs) c) fun h => k (.tup []) ⟨env, cenv, h, nx, n⟩)
          | _ => .fail "delete: no such object"
        | _ => .fail "delete: which"
    | _, _ => .fail "delete"
  | .call { callee := .builtin .append, args, argTypes } => match args.toList, argTypes.toList with
    | [s, x], [st, xt] => match P.underlying xt with
      | some (.slice _) | some .string => appendR P st (ev s) (ev x) rs k
      | _ => .fail "append"
    | _, _ => .fail "append"
  | .call { callee := .value f, args, argTypes := _ } => match ev f with
    | .fn g caps => match rs with
      | ⟨env, cenv, h, nx, n⟩ => .call g (evs ev args.toList ++ caps) h nx fun a h nx => k a ⟨env, cenv, h, nx, n⟩
    | .yld l => match rs with
      | ⟨env, cenv, h, nx, n⟩ => match get h l with
        | some (.loop en kk ps assign body .ready) => bif Nat.beq args.toList.length ps.length && ps.all (fun t => Nat.blt t kk) then
            bindPs ps (evs ev args.toList) en fun en => .round l assign body ⟨en, h, nx, ⟨kk, some l⟩⟩ fun b h nx => k (.bool b) ⟨env, cenv, h, nx, n⟩
          else .fail "yield"
        | _ => .fail "yield"
    | _ => .fail "call"
  | _ => .fail "effect"

def otherR (P : Program) (op : Op) (dst : Option Nat) (ctx : List (Nat × Bool)) (rs : RS) (k : RS → R) : R :=
  bif isEff op then
    match ctx with
    | [] => effR P op rs fun v rs => putR rs [] dst v k
    | x :: y => splitR (x :: y).reverse rs (fun rs => effR P op rs fun v rs => putR rs [] dst v k) (fun rs => putR rs (x :: y) dst .top k)
  else match ctx with
    | [] => frR0 (fval P op (evC rs []) rs.h) fun v => putR rs [] dst v k
    | x :: y => frR (fun c => ctxP rs (x :: y) c (x :: y)) (fval P op (evC rs (x :: y)) rs.h) fun v => putR rs (x :: y) dst v k

def stepR (P : Program) (o : Oper) (ctx : List (Nat × Bool)) (rs : RS) (k : RS → R) : R :=
  match o.op with
  | .pick c a b => match evC rs ctx c with
    | .bl true => putR rs ctx o.dst (evC rs ctx a) k
    | .bl false => putR rs ctx o.dst (evC rs ctx b) k
    | .bool x => match tmpOf c with
      | some s => putR rs ctx o.dst (pickV (.bool x) (evC rs ((s, true) :: ctx) a) (evC rs ((s, false) :: ctx) b)) k
      | none => .fail "pick"
    | _ => .fail "pick"
  | op => otherR P op o.dst ctx rs k

/-- Why an operation is skipped. -/
def skipC (all : List Oper) (o : Oper) (rs : RS) : List (Nat × Bool) :=
  match o.guard with
  | none => []
  | some (j, want) => match all[j]? with
    | none => []
    | some oj => match oj.dst with
      | none => []
      | some sj => match fullC rs sj with
        | (c, _) => match simpC rs c with
          | none => c
          | some _ => [(sj, want)]

def runOps (P : Program) (all : List Oper) : List Oper → RS → (RS → R) → R
  | [], rs, k => k rs
  | o :: rest, rs, k => match guardOf all o rs with
    | .bad => .fail "guard"
    | .skip => putR rs (skipC all o rs) o.dst .top fun rs => runOps P all rest rs k
    | .run ctx => stepR P o ctx rs fun rs => runOps P all rest rs k

/-- Behind a region what was known under a condition is known no more. -/
def drops : List (Nat × List (Nat × Bool) × AV) → List (Nat × AV) → List (Nat × AV)
  | [], env => env
  | (t, _, _) :: r, env => (t, .top) :: drops r env

def dropsK (c : List (Nat × List (Nat × Bool) × AV)) (env : List (Nat × AV)) (k : List (Nat × AV) → R) : R :=
  match c with
  | [] => k env
  | (t, _, _) :: r => dropsK r env fun e => k ((t, .top) :: e)

def endR (rs : RS) (k : St → R) : R :=
  match rs with
  | ⟨env, cenv, h, nx, sz⟩ => dropsK cenv env fun e => k ⟨e, h, nx, sz⟩

/-! ## A region whose order is drawn: floats (operations that change no named object) as early as can be, the others in their one order. -/

/-- What is done of a drawn region: which operations (dm), each with all that must come ahead of it and whether it read a named object (done), which slots were skipped (sk). -/
structure DS where
  env : List (Nat × AV)
  h : Heap
  nx : Nat
  sz : Sz
  dm : Nat
  done : List (Nat × Nat × Bool)
  sk : List Nat

def afterM : List Edge → Nat
  | [] => 0
  | e :: r => bif Region.binds .any e then Nat.lor (2 ^ e.on) (afterM r) else afterM r

def subM (a b : Nat) : Bool := Nat.beq (Nat.land a b) a
def bit (m i : Nat) : Bool := Nat.beq (Nat.land (Nat.shiftRight m i) 1) 1

def memN (t : Nat) : List Nat → Bool
  | [] => false
  | s :: r => bif Nat.beq s t then true else memN t r

def tmpsL : List Operand → List Nat
  | [] => []
  | .tmp t :: r => t :: tmpsL r
  | _ :: r => tmpsL r

def guardSlot (ops : List Oper) (o : Oper) : List Nat :=
  match o.guard with
  | none => []
  | some (j, _) => match ops[j]? with
    | none => []
    | some oj => match oj.dst with
      | none => []
      | some s => [s]

/-- What an operation looks at. -/
def lk (ops : List Oper) (o : Oper) : List Nat := guardSlot ops o ++ tmpsL o.op.operands.toList

def befM (am : Nat) : List (Nat × Nat × Bool) → Nat
  | [] => am
  | (i, b, _) :: r => bif bit am i then Nat.lor b (befM am r) else befM am r

def freshFor (ops : List Oper) (d : Nat) : List (Nat × Nat × Bool) → Bool
  | [] => true
  | (i, _, _) :: r => match ops[i]? with
    | some o => bif memN d (lk ops o) then false else match o.dst with
      | some d' => bif Nat.beq d d' then false else freshFor ops d r
      | none => freshFor ops d r
    | none => false

def depsIn (ops : List Oper) (l : List Nat) (b : Nat) : List (Nat × Nat × Bool) → Bool
  | [] => true
  | (i, _, _) :: r => match ops[i]? with
    | some o => match o.dst with
      | some d' => bif memN d' l && !(bit b i) then false else depsIn ops l b r
      | none => depsIn ops l b r
    | none => false

def wrote (d : Nat) (o : Oper) : Bool :=
  match o.dst with
  | some d' => Nat.beq d d'
  | none => false

/-- Whoever looks at the slot, or writes it, hangs on k. -/
def lateOK (ops : List Oper) (k d : Nat) : Nat → List Oper → Bool
  | _, [] => true
  | i, o :: r => bif Nat.beq i k || (bit (afterM o.after.toList) k || !(memN d (lk ops o) || wrote d o)) then lateOK ops k d (i + 1) r else false

/-- What an operation makes, whatever else stands. -/
def newO (P : Program) : Op → Option AObj
  | .alloc e => match cellsOf (zeroT P e) with
    | some cs => some (.cells cs)
    | none => none
  | .makeMap t r => match mapT P t, r with
    | some _, none => some (.map [])
    | _, _ => none
  | _ => none
def newA (op : Op) (nx : Nat) : AV :=
  match op with
  | .makeMap _ _ => .map nx
  | _ => .ptr nx 0
def newVal (op : Op) (b : Nat) : Value :=
  match op with
  | .makeMap _ _ => .map (some b)
  | _ => .pointer (some ⟨b, 0, none⟩)

/-- An operation that makes a variable, or a map, whenever it comes: the machine may let it come late. -/
def lateOf (P : Program) (ops : List Oper) (k : Nat) (o : Oper) : Bool :=
  match newO P o.op with
  | some _ => match o.guard with
    | some _ => false
    | none => match o.dst with
      | none => false
      | some d => lateOK ops k d 0 ops
  | none => false
def lateL (P : Program) (ops : List Oper) : Nat → List Oper → List Nat
  | _, [] => []
  | i, o :: r => bif lateOf P ops i o then i :: lateL P ops (i + 1) r else lateL P ops (i + 1) r
def maskL : List Nat → Nat
  | [] => 0
  | i :: r => Nat.lor (maskL r) (2 ^ i)
def withA (l : List Nat) (k : Nat → R) : R :=
  match l with
  | [] => k 0
  | i :: r => withA r fun m => k (Nat.lor m (2 ^ i))

def clr (A j : Nat) : Nat := bif bit A j then Nat.xor A (2 ^ j) else A
def uniqM (A dm e : Nat) : Nat → List Oper → Bool
  | _, [] => true
  | i, o :: r => bif Nat.beq i e || (bit dm i || (bit A i || !(subM (afterM o.after.toList) (Nat.lor dm A)))) then uniqM A dm e (i + 1) r else false

def gD (ops : List Oper) (o : Oper) (env : List (Nat × AV)) (sk : List Nat) : G :=
  match o.guard with
  | none => .run []
  | some (j, want) => match ops[j]? with
    | none => .bad
    | some oj => match oj.dst with
      | none => .bad
      | some sj => match look env sj with
        | .bl b => bif beqB b want then .run [] else .skip
        | .top => bif memN sj sk then .skip else .bad
        | _ => .bad

def evO (env : List (Nat × AV)) : Operand → AV
  | .tmp t => look env t
  | .const v => ofV v
  | .global _ => .top
  | .func f => .fn f []

def fvalD (P : Program) (o : Op) (ev : Operand → AV) (h : Heap) : FR :=
  match o with
  | .pick c a b => match ev c with
    | .bl true => .ok (ev a)
    | .bl false => .ok (ev b)
    | .bool x => .ok (pickV (.bool x) (ev a) (ev b))
    | _ => .no "pick"
  | o => fval P o ev h

def frD : FR → (AV → R) → R
  | .ok v, k => k v
  | .okL g l, k => withCells l fun l => k (g l)
  | .need c v, k => .need c (k v)
  | .nth els i g, k => .nth els i fun e => frD (g e) k
  | .bytes els g, k => .bytes els fun l => k (g l)
  | .any _ _, _ => .fail "an order that is drawn: any"
  | .no why, _ => .fail why

/-- Is the slot a guard? -/
def isGuard (all : List Oper) (d : Nat) : List Oper → Bool
  | [] => false
  | o :: r => bif memN d (guardSlot all o) then true else isGuard all d r

def putD (ops : List Oper) (j b : Nat) (f : Bool) (dst : Option Nat) (v : AV) (s : DS) (k : DS → R) : R :=
  match s with
  | ⟨env, h, nx, sz, dm, done, sk⟩ => match dst with
    | none => k ⟨env, h, nx, sz, Nat.lor dm (2 ^ j), (j, b, f) :: done, sk⟩
    | some d => force v fun v => match v with
      | .bool x => bif isGuard ops d ops then
          .br x (fun _ => k ⟨(d, .bl true) :: env, h, nx, sz, Nat.lor dm (2 ^ j), (j, b, f) :: done, sk⟩)
            (fun _ => k ⟨(d, .bl false) :: env, h, nx, sz, Nat.lor dm (2 ^ j), (j, b, f) :: done, sk⟩)
        else k ⟨(d, .bool x) :: env, h, nx, sz, Nat.lor dm (2 ^ j), (j, b, f) :: done, sk⟩
      | v => k ⟨(d, v) :: env, h, nx, sz, Nat.lor dm (2 ^ j), (j, b, f) :: done, sk⟩

def isLoad : Op → Bool
  | .load _ _ => true
  | .lookup _ _ _ _ => true
  | .call { callee := .builtin .len, .. } => true
  | _ => false

def isMake : Op → Bool
  | .makeSlice _ _ _ => true
  | _ => false

/-- What was read, and may be read later, is the same behind the effect. -/
def keepD (P : Program) (ops : List Oper) (b : Nat) (env : List (Nat × AV)) (h h' : Heap) : List (Nat × Nat × Bool) → R → R
  | [], k => k
  | (i, _, f) :: r, k => bif f && !(bit b i) then
      match ops[i]? with
      | some o => match o.op with
        | .load _ a => match evO env a with
          | .ptr id _ | .aptr id _ => .need (get h' id = get h id) (keepD P ops b env h h' r k)
          | .ref _ => keepD P ops b env h h' r k
          | _ => .fail "keep"
        | .lookup t m x ok => match evO env m with
          | .map id => match get h' id with
            | some (.ment es' _ _) => match get h id, mapT P t with
              | some (.map es), some (kt, et) => .need (lookV es' (evO env x) (zeroT P et) ok = lookV es (evO env x) (zeroT P et) ok ∧ (mapAsk P kt es (evO env x) → mapAsk P kt es' (evO env x))) (keepD P ops b env h h' r k)
              | _, _ => .need (get h' id = get h id) (keepD P ops b env h h' r k)
            | _ => .need (get h' id = get h id) (keepD P ops b env h h' r k)
          | .nilm => keepD P ops b env h h' r k
          | _ => .fail "keep"
        | .call { callee := .builtin .len, args, argTypes := _ } => match args.toList with
          | [x] => match evO env x with
            | .map id => .need (get h' id = get h id) (keepD P ops b env h h' r k)
            | _ => keepD P ops b env h h' r k
          | _ => keepD P ops b env h h' r k
        | _ => .fail "keep"
      | none => .fail "keep"
    else keepD P ops b env h h' r k

/-- Whoever looks at the slot, or wrote it, came ahead. -/
def weakFor (ops : List Oper) (d b : Nat) : List (Nat × Nat × Bool) → Bool
  | [] => true
  | (i, _, _) :: r => match ops[i]? with
    | some o => bif (memN d (lk ops o) || wrote d o) && !(bit b i) then false else weakFor ops d b r
    | none => false

def strictB (ops : List Oper) (o : Oper) (done : List (Nat × Nat × Bool)) : Bool :=
  match o.dst with
  | some d => freshFor ops d done
  | none => true

def chkB (ops : List Oper) (o : Oper) (j b : Nat) (sz : Sz) (dm : Nat) (done : List (Nat × Nat × Bool)) (sk : List Nat) : Bool :=
  subM (afterM o.after.toList) dm && (!(bit dm j) && (depsIn ops (lk ops o) b done && (match o.dst with
    | some d => Nat.blt d sz.k && (weakFor ops d b done && (!(memN d (lk ops o)) && !(memN d sk)))
    | none => true)))

def drun (P : Program) (ops : List Oper) (A : Nat) : List Nat → DS → (St → R) → R
  | [], s, k => match s with
    | ⟨env, h, nx, sz, dm, _, _⟩ => bif Nat.beq dm (2 ^ ops.length - 1) then k ⟨env, h, nx, sz⟩ else .fail "order: not all"
  | j :: π, s, k => match s with
    | ⟨env, h, nx, sz, dm, done, sk⟩ => match ops[j]? with
      | none => .fail "order"
      | some o =>
        let b := befM (afterM o.after.toList) done
        bif chkB ops o j b sz dm done sk then
          match gD ops o env sk with
          | .bad => .fail "guard"
          | .skip => bif !(strictB ops o done) then .fail "order: skip" else match o.dst with
            | none => putD ops j b false none .top ⟨env, h, nx, sz, dm, done, sk⟩ fun s => drun P ops A π s k
            | some d => putD ops j b false (some d) .top ⟨env, h, nx, sz, dm, done, d :: sk⟩ fun s => drun P ops A π s k
          | .run _ => bif isEff o.op then
              bif uniqM (clr A j) dm j 0 ops then
                effR P o.op ⟨env, [], h, nx, sz⟩ fun v rs => match rs with
                  | ⟨_, _, h', nx', _⟩ => keepD P ops b env h h' done (putD ops j b false o.dst v ⟨env, h', nx', sz, dm, done, sk⟩ fun s => drun P ops A π s k)
              else bif isMake o.op && strictB ops o done then frD (fvalD P o.op (evO env) h) fun v => putD ops j b false o.dst v ⟨env, h, nx, sz, dm, done, sk⟩ fun s => drun P ops A π s k
              else .fail "two effects in no order"
            else bif strictB ops o done then frD (fvalD P o.op (evO env) h) fun v => putD ops j b (isLoad o.op) o.dst v ⟨env, h, nx, sz, dm, done, sk⟩ fun s => drun P ops A π s k
            else bif uniqM (clr A j) dm j 0 ops then frR0 (fvalD P o.op (evO env) h) fun v => putD ops j b false o.dst v ⟨env, h, nx, sz, dm, done, sk⟩ fun s => drun P ops A π s k
            else .fail "order: a slot written again"
        else .fail "order"

/-- The next operation: a float, if one may come; else the first that may. -/
def nextF (dm : Nat) : Nat → List Oper → Option Nat
  | _, [] => none
  | i, o :: r => bif bit dm i || isEff o.op || !(subM (afterM o.after.toList) dm) then nextF dm (i + 1) r else some i
def nextE (A dm : Nat) : Nat → List Oper → Option Nat
  | _, [] => none
  | i, o :: r => bif bit dm i || (bit A i || !(subM (afterM o.after.toList) dm)) then nextE A dm (i + 1) r else some i

def orderOf (ops : List Oper) (A : Nat) : Nat → Nat → List Nat
  | 0, _ => []
  | n + 1, dm => match nextF dm 0 ops with
    | some i => i :: orderOf ops A n (Nat.lor dm (2 ^ i))
    | none => match nextE A dm 0 ops with
      | some i => i :: orderOf ops A n (Nat.lor dm (2 ^ i))
      | none => match nextE 0 dm 0 ops with
        | some i => i :: orderOf ops A n (Nat.lor dm (2 ^ i))
        | none => []

def drawn (P : Program) (ops : List Oper) (s : St) (k : St → R) : R :=
  match s with
  | ⟨env, h, nx, sz⟩ => bif P.follows .mixedOrders then withA (lateL P ops 0 ops) fun A => drun P ops A (orderOf ops A ops.length 0) ⟨env, h, nx, sz, 0, [], []⟩ k else .fail "mixed orders"

/-- What comes behind the first of two pieces of code; behind a block; behind a range over a function. -/
def seqK (f : St → (AExit → St → R) → R) (k : AExit → St → R) (e : AExit) (s : St) : R :=
  match e with
  | .normal => f s k
  | .exit i => k (.exit i) s
  | .ret => k .ret s
def blockK (id : Nat) (k : AExit → St → R) (e : AExit) (s : St) : R :=
  match e with
  | .exit i => bif Nat.beq i id then k .normal s else k (.exit i) s
  | .normal => k .normal s
  | .ret => k .ret s
def rangeK (env : List (Nat × AV)) (sz : Sz) (nx : Nat) (k : AExit → St → R) (h : Heap) (nx' : Nat) : R :=
  match get h nx with
  | some (.loop _ _ _ _ _ .ready) => withDel h nx fun h => k .normal ⟨env, h, nx', sz⟩
  | some (.loop _ _ _ _ _ (.done .ret)) => withDel h nx fun h => k .ret ⟨env, h, nx', sz⟩
  | some (.loop _ _ _ _ _ (.done (.exit i))) => withDel h nx fun h => k (.exit i) ⟨env, h, nx', sz⟩
  | _ => .fail "range over a function: the loop"

/-- Is the loop, of which the frame is a round's, there? -/
def inLoop (h : Heap) : Option Nat → Bool
  | none => true
  | some l => match get h l with
    | some (.loop _ _ _ _ _ _) => true
    | _ => false

def exec (P : Program) : Code → St → (AExit → St → R) → R
  | .skip, s, k => k .normal s
  | .label _, s, k => k .normal s
  | .region _ ops dr, s, k => bif dr then drawn P ops.toList s (k .normal) else match s with
    | ⟨env, h, nx, sz⟩ => runOps P ops.toList ops.toList ⟨env, [], h, nx, sz⟩ fun rs => endR rs (k .normal)
  | .seq a b, s, k => exec P a s (seqK (exec P b) k)
  | .cond c t e, s, k => match evO s.env c with
    | .bl true => exec P t s k
    | .bl false => exec P e s k
    | .bool b => .br b (fun _ => exec P t s k) (fun _ => exec P e s k)
    | _ => .fail "cond"
  | .block id body, s, k => exec P body s (blockK id k)
  | .scope body, s, k => exec P body s k
  | .loop body, s, k => .loop body s k
  | .exit id, s, k => k (.exit id) s
  | .ret, s, k => k .ret s
  | .rangeFunc g ps assign body, s, k => match s with
    | ⟨env, h, nx, sz⟩ => bif !(inLoop h sz.ro) then .fail "range over a function: around" else match evO env g with
      | .fn f caps => .call f (.yld nx :: caps) ((nx, .loop env sz.k ps.toList assign body .ready) :: h) (nx + 1) fun _ h nx' => rangeK env sz nx k h nx'
      | _ => .fail "range over a function: which"
  | _, _, _ => .fail "code"

/-- A round written out: the loop's left sides, then its body. -/
def roundE (l : Nat) (k : Bool → Heap → Nat → R) (e : AExit) (s : St) : R :=
  match s with
  | ⟨_, h, nx, _⟩ => match get h l with
    | some (.loop en kk ps as bo .busy) => match e with
      | .normal => withUpd h l (.loop en kk ps as bo .ready) fun h => k true h nx
      | .ret => withUpd h l (.loop en kk ps as bo (.done .ret)) fun h => k false h nx
      | .exit i => withUpd h l (.loop en kk ps as bo (.done (.exit i))) fun h => k false h nx
    | _ => .fail "a round: the loop"
def roundB (P : Program) (l : Nat) (body : Code) (k : Bool → Heap → Nat → R) (e : AExit) (s : St) : R :=
  match e with
  | .normal => match s with
    | ⟨env, h, nx, sz⟩ => match get h l with
      | some (.loop en kk ps as bo .ready) => withUpd h l (.loop en kk ps as bo .busy) fun h => exec P body ⟨env, h, nx, sz⟩ (roundE l k)
      | _ => .fail "a round: the loop"
  | _ => .fail "a round: its left sides"
def roundR (P : Program) (l : Nat) (assign body : Code) (s : St) (k : Bool → Heap → Nat → R) : R := exec P assign s (roundB P l body k)

def resFR (P : Program) (s : St) : ResultVar → FR
  | .tmp t => .ok (look s.env t)
  | .cell a t => match look s.env a with
    | .ptr id off => match get s.h id with
      | some (.cells l) => partT P t l off fun v => v
      | _ => .no "result"
    | _ => .no "result"

def resR (P : Program) (s : St) : List ResultVar → (List AV → R) → R
  | [], k => k []
  | x :: r, k => frR0 (resFR P s x) fun v => force v fun v => resR P s r fun l => k (v :: l)

/-- A function's end. -/
def finish (P : Program) (fn : Func) (e : AExit) (s : St) : R :=
  match e with
  | .exit _ => .fail "exit"
  | _ => match s with
    | ⟨env, h, nx, sz⟩ => resR P ⟨env, h, nx, sz⟩ fn.results.toList fun l => match l with
      | [v] => .ret v h nx
      | vs => .ret (.tup vs) h nx

def withBind (i : Nat) (l : List AV) (k : List (Nat × AV) → R) : R :=
  match l with
  | [] => k []
  | v :: r => withBind (i + 1) r fun r => k ((i, v) :: r)

def body (P : Program) (fn : Func) (sz : Nat) (args : List AV) (h : Heap) (nx : Nat) : R :=
  match fn.body with
  | some c => withBind 0 args fun env => exec P c ⟨env, h, nx, ⟨sz, none⟩⟩ (finish P fn)
  | none => .fail "no body"

end Go.Sym

namespace Go.Sym

section inv
variable {F : Fix} {V : View} {h : Heap} {w w' : World}

theorem objRep.heap_eq {id : Nat} {o : AObj} (hh : w'.heap = w.heap) (k : objRep F V w id o) : objRep F V w' id o := by
  cases o <;> simpa only [objRep, hh] using k

theorem cell?_heap (hh : w'.heap = w.heap) (a : Addr) : w'.cell? a = w.cell? a := by simp only [World.cell?, hh]

theorem Inv.heap_eq (hh : w'.heap = w.heap) (k : Inv F V h w) : Inv F V h w' :=
  ⟨fun b o x e => by rw [cell?_heap hh]; exact k.fixed b o x e, fun id o e => (k.objs id o e).heap_eq hh, k.nofix, k.inj⟩

theorem Step.drawnTo {n : Nat} (hn : w.drawn ≤ n) : Step F V h w F V h { w with drawn := n } :=
  ⟨.refl F, .refl V, fun _ k => .inl k, fun _ _ _ k => .inl k, Nat.le_refl _, fun _ _ _ => rfl, rfl, rfl, rfl, hn⟩

theorem Inv.fixed_lt (k : Inv F V h w) {b o : Nat} {x : Value} (e : F b o = some x) : b < w.heap.size :=
  World.block_lt_of_cell? w ⟨b, o, none⟩ (k.fixed b o x e)

theorem lt_of_get {α : Type} {a : Array α} {i : Nat} {x : α} (h : a[i]? = some x) : i < a.size := by
  rcases Nat.lt_or_ge i a.size with h' | h'
  · exact h'
  · simp [Array.getElem?_eq_none h'] at h

theorem Inv.own_lt (k : Inv F V h w) {b : Nat} (hb : Own V h b) : b < w.heap.size := by
  obtain ⟨id, o, hg, ho⟩ := hb
  have hr := k.objs id o hg
  cases o with
  | cells l =>
    obtain ⟨b', vs, e, hv, hh, -⟩ := hr
    simp only [own] at ho
    rw [ho] at hv; cases hv
    exact lt_of_get hh
  | tip s =>
    obtain ⟨x, hx, -, hb'⟩ := hr
    simp only [own, hx, Option.bind_some] at ho
    obtain ⟨vs, e, z, hh, -⟩ := hb' b ho
    exact lt_of_get hh
  | map es =>
    obtain ⟨b', xs, c, hv, hh, -⟩ := hr
    simp only [own] at ho
    rw [ho] at hv; cases hv
    exact lt_of_get hh
  | ment es mj ms =>
    obtain ⟨b', xs, c, hv, hh, -⟩ := hr
    simp only [own] at ho
    rw [ho] at hv; cases hv
    exact lt_of_get hh
  | mapN es nb nc =>
    obtain ⟨b', xs, c, hv, hh, -⟩ := hr
    simp only [own] at ho
    rw [ho] at hv; cases hv
    exact lt_of_get hh
  | iter im isn ise il =>
    obtain ⟨b', xs, c, hv, hh, -⟩ := hr
    simp only [own] at ho
    rw [ho] at hv; cases hv
    exact lt_of_get hh
  | loop en kk ps as bo st =>
    obtain ⟨b', r, hv, hh, -⟩ := hr
    simp only [own] at ho
    rw [ho] at hv; cases hv
    exact lt_of_get hh

/-- A new row of cells, fixed from now on. -/
def addF (F : Fix) (b : Nat) (vs : Array Value) : Fix := fun b' o => if b' = b then vs[o]? else F b' o

theorem heap_old (w : World) (o : Obj) {b : Nat} (h : b < w.heap.size) : (w.alloc o).heap[b]? = w.heap[b]? := by
  simp [World.alloc, -World.alloc_eq, Array.getElem?_push, Nat.ne_of_lt h]
theorem heap_new (w : World) (o : Obj) : (w.alloc o).heap[w.heap.size]? = some o := by
  simp [World.alloc, -World.alloc_eq]

theorem objRep.alloc {id : Nat} {ob : AObj} {o : Obj} (k : objRep F V w id ob) : objRep F V (w.alloc o) id ob := by
  cases ob with
  | cells l =>
    obtain ⟨b, vs, e, hv, hh, hr⟩ := k
    exact ⟨b, vs, e, hv, by rw [heap_old w o (lt_of_get hh)]; exact hh, hr⟩
  | tip s =>
    obtain ⟨x, hx, hs, hb⟩ := k
    exact ⟨x, hx, hs, fun b e => by
      obtain ⟨vs, el, z, hh, hr⟩ := hb b e
      exact ⟨vs, el, z, by rw [heap_old w o (lt_of_get hh)]; exact hh, hr⟩⟩
  | map es =>
    obtain ⟨b, xs, c, hv, hh, hr⟩ := k
    exact ⟨b, xs, c, hv, by rw [heap_old w o (lt_of_get hh)]; exact hh, hr⟩
  | ment es mj ms =>
    obtain ⟨b, xs, c, hv, hh, hr⟩ := k
    exact ⟨b, xs, c, hv, by rw [heap_old w o (lt_of_get hh)]; exact hh, hr⟩
  | mapN es nb nc =>
    obtain ⟨b, xs, c, hv, hh, hr⟩ := k
    exact ⟨b, xs, c, hv, by rw [heap_old w o (lt_of_get hh)]; exact hh, hr⟩
  | iter im isn ise il =>
    obtain ⟨b, xs, c, hv, hh, hr⟩ := k
    exact ⟨b, xs, c, hv, by rw [heap_old w o (lt_of_get hh)]; exact hh, hr⟩
  | loop en kk ps as bo st =>
    obtain ⟨b, r, hv, hh, hr⟩ := k
    exact ⟨b, r, hv, by rw [heap_old w o (lt_of_get hh)]; exact hh, hr⟩

theorem objRep.fix {F' : Fix} {id : Nat} {ob : AObj} (hF : F.le F') (k : objRep F V w id ob) : objRep F' V w id ob := by
  cases ob with
  | cells l =>
    obtain ⟨b, vs, e, hv, hh, hr, ho⟩ := k
    exact ⟨b, vs, e, hv, hh, hr.mono hF (.refl V), ho⟩
  | tip s => exact k
  | map es =>
    obtain ⟨b, xs, c, hv, hh, h1, h2, hr⟩ := k
    exact ⟨b, xs, c, hv, hh, h1.mono hF (.refl V), h2.mono hF (.refl V), hr⟩
  | ment es mj ms =>
    obtain ⟨b, xs, c, hv, hh, h1, h2, hr⟩ := k
    exact ⟨b, xs, c, hv, hh, h1.mono hF (.refl V), h2.mono hF (.refl V), hr⟩
  | mapN es nb nc =>
    obtain ⟨b, xs, c, hv, hh, h1, h2, hr⟩ := k
    exact ⟨b, xs, c, hv, hh, h1.mono hF (.refl V), h2.mono hF (.refl V), hr⟩
  | iter im isn ise il => exact k
  | loop en kk ps as bo st =>
    obtain ⟨b, r, hv, hh, h1, h2, h3, h4, h5, hr⟩ := k
    exact ⟨b, r, hv, hh, h1, h2, h3, h4, fun t => rep.mono hF (.refl V) _ _ (h5 t), hr⟩

theorem Inv.fnew (k : Inv F V h w) (o : Nat) : F w.heap.size o = none := by
  cases e : F w.heap.size o with
  | none => rfl
  | some x => exact absurd (k.fixed_lt e) (Nat.lt_irrefl _)

theorem Inv.le_addF (k : Inv F V h w) (vs : Array Value) : F.le (addF F w.heap.size vs) :=
  ⟨fun b o x e => by
    have := k.fixed_lt e
    simp only [addF, Nat.ne_of_lt this, if_false]; exact e⟩

/-- A new block that nobody has by name. -/
theorem Inv.alloc (k : Inv F V h w) (vs : Array Value) (el : TypeId) (z : Nat × Nat) : Inv (addF F w.heap.size vs) V h (w.alloc (.cells vs el z)) where
  fixed := fun b o x e => by
    simp only [addF] at e
    split at e
    · rename_i hb; subst hb
      simp only [World.cell?, heap_new]; simpa using e
    · have := k.fixed_lt e
      rw [World.cell?_alloc_lt w _ ⟨b, o, none⟩ this]
      exact k.fixed b o x e
  objs := fun id o e => ((k.objs id o e).alloc).fix (k.le_addF vs)
  nofix := fun id o b off hg ho hf => by
    have := k.own_lt ⟨id, o, hg, ho⟩
    simp only [addF, Nat.ne_of_lt this, if_false]
    exact k.nofix id o b off hg ho hf
  inj := k.inj

theorem Step.alloc (k : Inv F V h w) (vs : Array Value) (o : Obj) : Step F V h w (addF F w.heap.size vs) V h (w.alloc o) where
  fix := k.le_addF vs
  view := .refl V
  own := fun _ x => .inl x
  newfix := fun b off x e => by
    simp only [addF] at e
    split at e
    · rename_i hb; exact .inr (.inr (by omega))
    · exact .inl e
  size := by simp
  touch := fun b hb _ => heap_old w o hb
  os := rfl
  tape := rfl
  output := rfl
  drawn := Nat.le_refl _

theorem Step.alloc0 (o : Obj) : Step F V h w F V h (w.alloc o) where
  fix := .refl F
  view := .refl V
  own := fun _ x => .inl x
  newfix := fun _ _ _ e => .inl e
  size := by simp
  touch := fun b hb _ => heap_old w o hb
  os := rfl
  tape := rfl
  output := rfl
  drawn := Nat.le_refl _

end inv

/-- What an operation's answer asks, and then T of the value. -/
def FR.sat (T : AV → Prop) : FR → Prop
  | .ok v => T v
  | .okL g l => T (g l)
  | .need c v => c ∧ T v
  | .nth els i g => ∃ e, (0 ≤ i ∧ els[i.toNat]? = some e) ∧ (g e).sat T
  | .bytes els g => ∃ l, els = u8s l ∧ T (g l)
  | .any c g => ∀ b, (b = true → c) → T (g b)
  | .no _ => False

theorem force_eq (v : AV) (g : AV → R) : force v g = g v := by cases v <;> rfl

theorem withCells_eq (l : List AV) (k : List AV → R) : withCells l k = k l := by
  induction l generalizing k with
  | nil => rfl
  | cons v l ih => simp [withCells, force_eq, ih]

theorem holds_frR0 {P : Program} {Q : AExit → St → Prop} {K : AV → Heap → Nat → Prop} {k : AV → R} : ∀ {fr : FR}, holds P Q K (frR0 fr k) → fr.sat fun a => holds P Q K (k a)
  | .ok _, h => h
  | .okL _ _, h => by rw [frR0, withCells_eq] at h; exact h
  | .need _ _, h => h
  | .nth _ _ _, ⟨e, he, h⟩ => ⟨e, he, holds_frR0 h⟩
  | .bytes _ _, h => h
  | .any _ _, h => h
  | .no _, h => h

theorem holds_frR_run {P : Program} {Q : AExit → St → Prop} {K : AV → Heap → Nat → Prop} {f : Prop → Prop} (hf : ∀ c, f c → c) {k : AV → R} :
    ∀ {fr : FR}, holds P Q K (frR f fr k) → fr.sat fun a => holds P Q K (k a)
  | .ok _, h => h
  | .okL _ _, h => by rw [frR, withCells_eq] at h; exact h
  | .need _ _, h => ⟨hf _ h.1, h.2⟩
  | .nth _ _ _, ⟨e, he, h⟩ => ⟨e, hf _ he, holds_frR_run hf h⟩
  | .bytes _ _, ⟨l, hl, h⟩ => ⟨l, hf _ hl, h⟩
  | .any _ _, h => h
  | .no _, h => h

theorem holds_frR_skip {P : Program} {Q : AExit → St → Prop} {K : AV → Heap → Nat → Prop} {f : Prop → Prop} {k : AV → R} :
    ∀ {fr : FR}, holds P Q K (frR f fr k) → ∃ a, holds P Q K (k a)
  | .ok v, h => ⟨v, h⟩
  | .okL g l, h => by rw [frR, withCells_eq] at h; exact ⟨g l, h⟩
  | .need _ v, h => ⟨v, h.2⟩
  | .nth _ _ g, ⟨e, _, h⟩ => holds_frR_skip (fr := g e) h
  | .bytes _ g, ⟨l, _, h⟩ => ⟨g l, h⟩
  | .any _ g, h => ⟨g false, h false (by simp)⟩
  | .no _, h => h.elim

/-- A value, where the heap is as it was and more cells may be fixed. -/
def Gives (P : Program) (F : Fix) (V : View) (h : Heap) (w : World) (T : AV → Prop) (s : Sem Value) : Prop :=
  ∃ a v F' w', T a ∧ s.run P w = .ok v w' ∧ rep F' V a v ∧ Inv F' V h w' ∧ Step F V h w F' V h w'

theorem Gives.pure {P : Program} {F : Fix} {V : View} {h : Heap} {w : World} {T : AV → Prop} {s : Sem Value} {a : AV} {v : Value}
    (i : Inv F V h w) (hT : T a) (hr : s.run P w = .ok v w) (r : rep F V a v) : Gives P F V h w T s :=
  ⟨a, v, F, w, hT, hr, r, i, .refl _ _ _ _⟩

end Go.Sym

namespace Go.Sym

section
variable {P : Program} {F : Fix} {V : View} {h : Heap} {w : World} {T : AV → Prop}

theorem kindEq_eq {k k' : IntKind} (e : kindEq k k' = true) : k = k' := by cases k <;> cases k' <;> simp [kindEq] at e <;> rfl

theorem isBool_rep {a : AV} {b : Bool} {v : Value} (e : isBool a = some b) (r : rep F V a v) : v = .bool b := by
  cases a <;> simp [isBool] at e <;> (subst e; simpa [rep] using r)

theorem Gives.int {s : Sem Value} {k : IntKind} {n : Int} (i : Inv F V h w) (hT : T (.int k n)) (hr : s.run P w = .ok (.int k n) w) : Gives P F V h w T s :=
  .pure i hT hr (by simp [rep])
theorem Gives.bool {s : Sem Value} {b : Bool} (i : Inv F V h w) (hT : T (.bool b)) (hr : s.run P w = .ok (.bool b) w) : Gives P F V h w T s :=
  .pure i hT hr (by simp [rep])
theorem Gives.bl {s : Sem Value} {b : Bool} (i : Inv F V h w) (hT : T (.bl b)) (hr : s.run P w = .ok (.bool b) w) : Gives P F V h w T s :=
  .pure i hT hr (by simp [rep])
theorem Gives.str {s : Sem Value} {l : List UInt8} (i : Inv F V h w) (hT : T (.str l)) (hr : s.run P w = .ok (.string ⟨l.toArray⟩) w) : Gives P F V h w T s :=
  .pure i hT hr (by simp [rep])

theorem intOp_sound {op : BinOp} {t : TypeId} {k : IntKind} {x y : Int} (hs : (intOp op k x y).sat T) (i : Inv F V h w) :
    Gives P F V h w T (binOp op t (.int k x) (.int k y)) := by
  cases op <;> simp only [intOp, FR.sat] at hs
  case add => exact .int i hs (by simp [binOp_add, Op.intArith])
  case sub => exact .int i hs (by simp [binOp_sub, Op.intArith])
  case mul => exact .int i hs (by simp [binOp_mul, Op.intArith])
  case quo => exact .int i hs.2 (by simp [binOp_quo, Op.intDiv, hs.1])
  case rem => exact .int i hs.2 (by simp [binOp_rem, Op.intDiv, hs.1])
  case and => exact .int i hs (by simp [binOp_and, Op.intBits])
  case or => exact .int i hs (by simp [binOp_or, Op.intBits])
  case xor => exact .int i hs (by simp [binOp_xor, Op.intBits])
  case andNot => exact .int i hs (by simp [binOp_andNot, Op.intBits])
  case eql => exact .bool i hs (by simp [binOp_eql])
  case neq => exact .bool i hs (by simp [binOp_neq])
  case lss => exact .bool i hs (by simp [binOp_lss])
  case leq => exact .bool i hs (by simp [binOp_leq])
  case gtr => exact .bool i hs (by simp [binOp_gtr])
  case geq => exact .bool i hs (by simp [binOp_geq])

theorem strOp_sound {op : BinOp} {t : TypeId} {x y : List UInt8} (hs : (strOp op x y).sat T) (i : Inv F V h w) :
    Gives P F V h w T (binOp op t (.string ⟨x.toArray⟩) (.string ⟨y.toArray⟩)) := by
  have hx : (ByteArray.mk x.toArray).size = x.length := by simp [ByteArray.size]
  have hy : (ByteArray.mk y.toArray).size = y.length := by simp [ByteArray.size]
  cases op <;> simp only [strOp, FR.sat] at hs
  case add =>
    refine .str i hs.2 ?_
    have h1 : ¬ (((x.length + y.length : Nat) : Int) > IntKind.i64.max) := by have := hs.1; omega
    have e : (ByteArray.mk x.toArray) ++ (ByteArray.mk y.toArray) = ByteArray.mk (x ++ y).toArray := by
      apply ByteArray.ext
      simp [ByteArray.data_append]
    simp only [binOp_string_add, Op.stringOp, hx, hy, if_neg h1, Sem.run_pure, e]
  case eql => exact .bool i hs (by simp [binOp, Op.stringOp])
  case neq => exact .bool i hs (by simp [binOp, Op.stringOp])
  case lss => exact .bool i hs (by simp [binOp, Op.stringOp])
  case leq => exact .bool i hs (by simp [binOp, Op.stringOp])
  case gtr => exact .bool i hs (by simp [binOp, Op.stringOp])
  case geq => exact .bool i hs (by simp [binOp, Op.stringOp])
  all_goals exact hs.elim

theorem run_isAgg {t : TypeId} {u : TypeDesc} (hu1 : P.underlying t = some u) (hu2 : (match u with | .struct _ | .array _ _ => true | _ => false) = false) : (isAgg t).run P w = .ok false w := by
  unfold isAgg
  simp only [Sem.run_bind, run_underlying hu1, Result.andThen_ok]
  cases u <;> simp_all

theorem fieldsEq_sound {d : Nat} {zs us : List Value} : ∀ {fs : List Field} {n : Nat} {a b : List AV} {e : Bool},
    fieldsEq P fs n a b = some e → repL F V a (zs.drop n) → repL F V b (us.drop n) →
    (Op.eqFields (d + 1) zs.toArray us.toArray fs).run P w = .ok e w
  | [], n, a, b, e, he, ha, hb => by
    cases a <;> cases b <;> simp [fieldsEq] at he
    subst he; simp [Op.eqFields]
  | f :: fs, n, [], b, e, he, ha, hb => by simp [fieldsEq] at he
  | f :: fs, n, a0 :: a, [], e, he, ha, hb => by simp [fieldsEq] at he
  | f :: fs, n, a0 :: a, b0 :: b, e, he, ha, hb => by
    simp only [fieldsEq] at he
    cases hc : (f.name != "_" && Nat.beq f.offset n) with
    | false => simp [hc] at he
    | true =>
    simp only [hc, cond_true] at he
    simp only [Bool.and_eq_true] at hc
    obtain ⟨hn, ho⟩ := hc
    have ho := Nat.eq_of_beq_eq_true ho
    have hn' : f.name ≠ "_" := by simpa using hn
    simp only [repL] at ha hb
    obtain ⟨x, zr, hz, hxa, hra⟩ := ha
    obtain ⟨y, ur, huu, hyb, hrb⟩ := hb
    have hza : zs.drop (n + 1) = zr := by rw [← List.drop_drop, hz]; rfl
    have hua : us.drop (n + 1) = ur := by rw [← List.drop_drop, huu]; rfl
    have hxn : zs.toArray[f.offset]? = some x := by
      rw [ho]
      have : (zs.drop n)[0]? = some x := by rw [hz]; rfl
      simpa using this
    have hyn : us.toArray[f.offset]? = some y := by
      rw [ho]
      have : (us.drop n)[0]? = some y := by rw [huu]; rfl
      simpa using this
    cases h1 : fieldsEq P fs (n + 1) a b with
    | none => rw [h1] at he; simp at he
    | some e1 =>
    rw [h1] at he
    simp only at he
    have ih := fieldsEq_sound (d := d) h1 (hza ▸ hra) (hua ▸ hrb)
    have key : ∀ (e0 : Bool), (Op.equalIn (d + 1) f.type x y).run P w = .ok e0 w → (isAgg f.type).run P w = .ok false w → e = (e0 && e1) →
        (Op.eqFields (d + 1) zs.toArray us.toArray (f :: fs)).run P w = .ok e w := by
      intro e0 h0 hag hee
      have hpx : (part f.type zs.toArray f.offset).run P w = .ok x w := by
        unfold part; simp only [Sem.run_bind, hag, Result.andThen_ok, Bool.false_eq_true, if_false, hxn, Sem.run_pure]
      have hpy : (part f.type us.toArray f.offset).run P w = .ok y w := by
        unfold part; simp only [Sem.run_bind, hag, Result.andThen_ok, Bool.false_eq_true, if_false, hyn, Sem.run_pure]
      simp only [Op.eqFields, hn', ne_eq, not_false_eq_true, if_true, Sem.run_bind, hpx, hpy, h0, Result.andThen_ok]
      cases e0
      · simp [hee]
      · simp only [Bool.not_true, Bool.false_eq_true, if_false, ih, hee, Bool.true_and]
    cases hU : P.underlying f.type with
    | none => simp [hU] at he
    | some u =>
    cases u <;> simp only [hU] at he <;> try contradiction
    case int k0 =>
      cases a0 <;> try (simp at he; done)
      cases b0 <;> try (simp at he; done)
      simp only [rep] at hxa hyb
      subst hxa; subst hyb
      rename_i k p k' q
      cases hk : kindEq k k' with
      | false => simp [hk] at he
      | true =>
      obtain rfl := kindEq_eq hk
      simp only [hk, cond_true, Option.some.injEq] at he
      exact key _ (run_equalIn_int w d f.type k k0 p q hU) (run_isAgg hU rfl) he.symm
    case string =>
      cases a0 <;> try (simp at he; done)
      cases b0 <;> try (simp at he; done)
      simp only [rep] at hxa hyb
      subst hxa; subst hyb
      simp only [Option.some.injEq] at he
      refine key _ (run_equalIn_string w d f.type _ _ hU) (run_isAgg hU rfl) ?_
      simp [← he]
    case bool =>
      cases hA : isBool a0 with
      | none => simp [hA] at he
      | some p =>
      cases hB : isBool b0 with
      | none => simp [hA, hB] at he
      | some q =>
      simp only [hA, hB, Option.some.injEq] at he
      have e1 := isBool_rep hA hxa
      have e2 := isBool_rep hB hyb
      subst e1; subst e2
      exact key _ (run_equalIn_bool' w d f.type p q hU) (run_isAgg hU rfl) he.symm

theorem structEq_sound {t : TypeId} {a b : List AV} {e : Bool} {zs us : List Value} (hc : eqAsk P t) (he : structEq P t a b = some e) (ha : repL F V a zs) (hb : repL F V b us) :
    (Op.equal t (.agg zs.toArray) (.agg us.toArray)).run P w = .ok e w ∧ P.eqGuardType P.depth t = false := by
  unfold structEq at he
  cases hU : P.underlying t with
  | none => simp [hU] at he
  | some u =>
  cases u <;> simp only [hU] at he <;> try contradiction
  rename_i fs
  have hf : P.fieldsOf t = fs := by simp [Program.fieldsOf, hU]
  refine ⟨?_, hc.2⟩
  show (Op.equalIn (9998 + 1 + 1) t _ _).run P w = _
  rw [run_equalIn_struct w _ t _ _ (by rw [hf]; exact hU) hc.1, hf]
  exact fieldsEq_sound he (by simpa using ha) (by simpa using hb)

theorem eqFn_sat {op : BinOp} {c : Prop} {mk : Bool → AV} {b : Bool} (hs : (eqFn op c mk b).sat T) : c ∧ (eqF op mk b).sat T := by
  cases op <;> simp only [eqFn, eqF, FR.sat] at hs ⊢ <;> first | exact hs | exact hs.elim

theorem eqF_sound {op : BinOp} {t : TypeId} {xo yo : Operand} {x y : Value} {c : Bool} {mk : Bool → AV} (i : Inv F V h w) (hmk : ∀ b, rep F V (mk b) (.bool b))
    (hg : (eqGuard op t xo yo x y).run P w = .ok () w) (he : (Op.equal t x y).run P w = .ok c w)
    (h1 : binOp .eql t x y = (do pure (.bool (← Op.equal t x y)))) (h2 : binOp .neq t x y = (do pure (.bool (!(← Op.equal t x y)))))
    (hs : (eqF op mk c).sat T) : Gives P F V h w T (do eqGuard op t xo yo x y; binOp op t x y) := by
  cases op <;> simp only [eqF, FR.sat] at hs <;> try exact hs.elim
  case eql => exact .pure (v := .bool c) i hs (by simp [hg, h1, he]) (hmk _)
  case neq => exact .pure (v := .bool !c) i hs (by simp [hg, h2, he]) (hmk _)

theorem anyF_sound {op : BinOp} {t : TypeId} {xo yo : Operand} {x y : Value} {c : Bool} {p : Prop} (i : Inv F V h w) (hp : c = true → p)
    (hg : (eqGuard op t xo yo x y).run P w = .ok () w) (he : (Op.equal t x y).run P w = .ok c w)
    (h1 : binOp .eql t x y = (do pure (.bool (← Op.equal t x y)))) (h2 : binOp .neq t x y = (do pure (.bool (!(← Op.equal t x y)))))
    (hs : (anyF op p).sat T) : Gives P F V h w T (do eqGuard op t xo yo x y; binOp op t x y) := by
  cases op <;> simp only [anyF, FR.sat] at hs <;> try exact hs.elim
  case eql => exact .pure (v := .bool c) i (hs c hp) (by simp [hg, h1, he]) (by simp [rep])
  case neq => exact .pure (v := .bool !c) i (hs c hp) (by simp [hg, h2, he]) (by simp [rep])

section nil
variable {t el kt : TypeId} {d : Nat}
theorem eq_pp (hU : P.underlying t = some (.pointer el)) : (Op.equalIn (d + 1) t (.pointer none) (.pointer none)).run P w = .ok true w := by simp [Op.equalIn, run_underlying hU]
theorem eq_ps (hU : P.underlying t = some (.pointer el)) (a : Addr) : (Op.equalIn (d + 1) t (.pointer none) (.pointer (some a))).run P w = .ok false w := by simp [Op.equalIn, run_underlying hU]
theorem eq_sp (hU : P.underlying t = some (.pointer el)) (a : Addr) : (Op.equalIn (d + 1) t (.pointer (some a)) (.pointer none)).run P w = .ok false w := by simp [Op.equalIn, run_underlying hU]
theorem eq_sl1 (hU : P.underlying t = some (.slice el)) (a : Option Addr) (n m k l : Nat) : (Op.equalIn (d + 1) t (.slice none n m) (.slice a k l)).run P w = .ok a.isNone w := by simp [Op.equalIn, run_underlying hU]
theorem eq_sl2 (hU : P.underlying t = some (.slice el)) (a : Addr) (n m k l : Nat) : (Op.equalIn (d + 1) t (.slice (some a) n m) (.slice none k l)).run P w = .ok false w := by simp [Op.equalIn, run_underlying hU]
theorem eq_m1 (hU : P.underlying t = some (.map kt el)) (a : Option Nat) : (Op.equalIn (d + 1) t (.map none) (.map a)).run P w = .ok a.isNone w := by simp [Op.equalIn, run_underlying hU]
theorem eq_m2 (hU : P.underlying t = some (.map kt el)) (a : Nat) : (Op.equalIn (d + 1) t (.map (some a)) (.map none)).run P w = .ok false w := by simp [Op.equalIn, run_underlying hU]
theorem eq_f0 {ps rs : Array TypeId} {va : Bool} (hU : P.underlying t = some (.func ps rs va)) : (Op.equalIn (d + 1) t .nilFunc .nilFunc).run P w = .ok true w := by simp [Op.equalIn, run_underlying hU]
theorem eq_f1 {ps rs : Array TypeId} {va : Bool} (hU : P.underlying t = some (.func ps rs va)) (f : Fn) (a b : Array Value) : (Op.equalIn (d + 1) t .nilFunc (.func f a b)).run P w = .ok false w := by simp [Op.equalIn, run_underlying hU]
theorem eq_f2 {ps rs : Array TypeId} {va : Bool} (hU : P.underlying t = some (.func ps rs va)) (f : Fn) (a b : Array Value) : (Op.equalIn (d + 1) t (.func f a b) .nilFunc).run P w = .ok false w := by simp [Op.equalIn, run_underlying hU]
theorem eq_i1 {ms : Array (String × TypeId)} (hU : P.underlying t = some (.interface ms)) (u : TypeId) (x : Value) : (Op.equalIn (d + 1) t .nilIface (.iface u x)).run P w = .ok false w := by simp [Op.equalIn, run_underlying hU]
theorem eq_i2 {ms : Array (String × TypeId)} (hU : P.underlying t = some (.interface ms)) (u : TypeId) (x : Value) : (Op.equalIn (d + 1) t (.iface u x) .nilIface).run P w = .ok false w := by simp [Op.equalIn, run_underlying hU]
end nil

theorem guardOk {op : BinOp} {t : TypeId} {xo yo : Operand} {x y : Value} (hg : eqGuard op t xo yo x y = pure ()) : (eqGuard op t xo yo x y).run P w = .ok () w := by rw [hg]; rfl

theorem nil_sound {op : BinOp} {t : TypeId} {xo yo : Operand} {a b : AV} {x y : Value}
    (hs : (match nilEq P t a b with | .known b => eqF op .bl b | .unknown els => anyF op (els = []) | .no => .no "binV" : FR).sat T) (i : Inv F V h w) (ra : rep F V a x) (rb : rep F V b y) :
    Gives P F V h w T (do eqGuard op t xo yo x y; binOp op t x y) := by
  have hbl : ∀ b, rep F V (.bl b) (.bool b) := fun b => by simp [rep]
  unfold nilEq at hs
  cases hU : P.underlying t with
  | none => simp [hU, FR.sat] at hs
  | some u =>
  cases u <;> simp only [hU] at hs <;> try exact hs.elim
  case pointer el =>
    cases a <;> try exact hs.elim
    all_goals cases b <;> try exact hs.elim
    all_goals simp only [rep] at ra rb
    · subst ra; subst rb
      exact eqF_sound i hbl (guardOk (eqGuard_at_pointer ..)) (eq_pp hU) (by simp [binOp]) (by simp [binOp]) hs
    · subst ra; obtain ⟨b, _, rfl⟩ := rb
      exact eqF_sound i hbl (guardOk (eqGuard_at_pointer ..)) (eq_ps hU _) (by simp [binOp]) (by simp [binOp]) hs
    · subst rb; obtain ⟨b, _, rfl⟩ := ra
      exact eqF_sound i hbl (guardOk (eqGuard_at_pointer ..)) (eq_sp hU _) (by simp [binOp]) (by simp [binOp]) hs
  case slice el =>
    cases a <;> try exact hs.elim
    all_goals cases b <;> try exact hs.elim
    all_goals simp only [rep] at ra rb
    · subst ra; subst rb
      exact eqF_sound i hbl (guardOk (eqGuard_at_slice ..)) (eq_sl1 hU ..) (by simp [binOp]) (by simp [binOp]) hs
    · subst ra
      rcases rb with ⟨b, o, cap, vs, rfl, -⟩ | ⟨he, ⟨q, rfl⟩, -⟩
      · exact anyF_sound i (c := false) (by simp) (guardOk (eqGuard_at_slice ..)) (eq_sl1 hU ..) (by simp [binOp]) (by simp [binOp]) hs
      · exact anyF_sound i (c := q.isNone) (fun _ => he) (guardOk (eqGuard_at_slice ..)) (eq_sl1 hU ..) (by simp [binOp]) (by simp [binOp]) hs
    · subst ra; obtain ⟨b, _, rfl⟩ := rb
      exact eqF_sound i hbl (guardOk (eqGuard_at_slice ..)) (eq_sl1 hU ..) (by simp [binOp]) (by simp [binOp]) hs
    · subst rb
      rcases ra with ⟨b, o, cap, vs, rfl, -⟩ | ⟨he, ⟨q, rfl⟩, -⟩
      · exact anyF_sound i (c := false) (by simp) (guardOk (eqGuard_at_slice ..)) (eq_sl2 hU ..) (by simp [binOp]) (by simp [binOp]) hs
      · cases q with
        | none => exact anyF_sound i (c := true) (fun _ => he) (guardOk (eqGuard_at_slice ..)) (eq_sl1 hU ..) (by simp [binOp]) (by simp [binOp]) hs
        | some q => exact anyF_sound i (c := false) (fun _ => he) (guardOk (eqGuard_at_slice ..)) (eq_sl2 hU ..) (by simp [binOp]) (by simp [binOp]) hs
    · subst rb; obtain ⟨b, _, rfl⟩ := ra
      exact eqF_sound i hbl (guardOk (eqGuard_at_slice ..)) (eq_sl2 hU ..) (by simp [binOp]) (by simp [binOp]) hs
  case map kt el =>
    cases a <;> try exact hs.elim
    all_goals cases b <;> try exact hs.elim
    all_goals simp only [rep] at ra rb
    · subst ra; subst rb
      exact eqF_sound i hbl (guardOk (eqGuard_at_map ..)) (eq_m1 hU ..) (by simp [binOp]) (by simp [binOp]) hs
    · subst ra; obtain ⟨b, _, rfl⟩ := rb
      exact eqF_sound i hbl (guardOk (eqGuard_at_map ..)) (eq_m1 hU ..) (by simp [binOp]) (by simp [binOp]) hs
    · subst rb; obtain ⟨b, _, rfl⟩ := ra
      exact eqF_sound i hbl (guardOk (eqGuard_at_map ..)) (eq_m2 hU ..) (by simp [binOp]) (by simp [binOp]) hs
  case func ps rs va =>
    cases a <;> try exact hs.elim
    all_goals cases b <;> try exact hs.elim
    all_goals simp only [rep] at ra rb
    · subst ra; subst rb
      exact eqF_sound i hbl (guardOk (eqGuard_at_nilFunc ..)) (eq_f0 hU) (by simp [binOp]) (by simp [binOp]) hs
    · subst ra; obtain ⟨b, rfl, _⟩ := rb
      exact eqF_sound i hbl (guardOk (eqGuard_at_nilFunc ..)) (eq_f1 hU ..) (by simp [binOp]) (by simp [binOp]) hs
    · subst ra; obtain ⟨b, _, rfl⟩ := rb
      exact eqF_sound i hbl (guardOk (eqGuard_at_nilFunc ..)) (eq_f1 hU ..) (by simp [binOp]) (by simp [binOp]) hs
    · subst rb; obtain ⟨b, rfl, _⟩ := ra
      exact eqF_sound i hbl (guardOk (eqGuard_at_func ..)) (eq_f2 hU ..) (by simp [binOp]) (by simp [binOp]) hs
    · subst rb; obtain ⟨b, _, rfl⟩ := ra
      exact eqF_sound i hbl (guardOk (eqGuard_at_func ..)) (eq_f2 hU ..) (by simp [binOp]) (by simp [binOp]) hs
  case interface ms =>
    cases a <;> try exact hs.elim
    all_goals cases b <;> try exact hs.elim
    all_goals simp only [rep] at ra rb
    · subst ra; obtain ⟨b, rfl, _⟩ := rb
      exact eqF_sound i hbl (guardOk (eqGuard_nil_iface ..)) (eq_i1 hU ..) (by simp [binOp]) (by simp [binOp]) hs
    · subst rb; obtain ⟨b, rfl, _⟩ := ra
      exact eqF_sound i hbl (guardOk (eqGuard_at_iface ..)) (eq_i2 hU ..) (by simp [binOp]) (by simp [binOp]) hs

theorem bin_sound {op : BinOp} {t : TypeId} {xo yo : Operand} {a b : AV} {x y : Value} (hs : (binV P op t a b).sat T) (i : Inv F V h w) (ra : rep F V a x) (rb : rep F V b y) :
    Gives P F V h w T (do eqGuard op t xo yo x y; binOp op t x y) := by
  have guard0 : eqGuard op t xo yo x y = pure () → Gives P F V h w T (binOp op t x y) → Gives P F V h w T (do eqGuard op t xo yo x y; binOp op t x y) := by
    intro hg hG
    rw [hg]
    simpa using hG
  unfold binV at hs
  split at hs
  · -- int
    rename_i k n
    simp only [rep] at ra
    subst ra
    split at hs
    · rename_i k' m
      simp only [rep] at rb
      subst rb
      refine guard0 (eqGuard_at_int ..) ?_
      split at hs
      · obtain ⟨h0, hT⟩ := hs
        refine .int i hT ?_
        have : ¬ m < 0 := by omega
        simp [binOp_shl, Op.shift, this]
      · obtain ⟨h0, hT⟩ := hs
        refine .int i hT ?_
        have : ¬ m < 0 := by omega
        simp only [binOp, Op.shift, if_neg this, Sem.run_pure]
      · cases hk : kindEq k k' with
        | false => simp [hk, FR.sat] at hs
        | true =>
        obtain rfl := kindEq_eq hk
        simp only [hk, cond_true] at hs
        exact intOp_sound hs i
    · exact hs.elim
  · -- str
    simp only [rep] at ra
    subst ra
    split at hs
    · simp only [rep] at rb
      subst rb
      exact guard0 (eqGuard_at_string ..) (strOp_sound hs i)
    · exact hs.elim
  · -- agg
    simp only [rep] at ra
    obtain ⟨zs, rfl, hz, -⟩ := ra
    split at hs
    · rename_i l
      simp only [rep] at rb
      obtain ⟨us, rfl, hu, -⟩ := rb
      split at hs
      · rename_i e he
        obtain ⟨hc, hs⟩ := eqFn_sat hs
        obtain ⟨hq, hg⟩ := structEq_sound (w := w) hc he hz hu
        have hgd : ((eqGuard op t xo yo (.agg zs.toArray) (.agg us.toArray)).run P w) = .ok () w := by
          unfold eqGuard
          cases op <;> simp [hg]
        exact eqF_sound i (fun b => by simp [rep]) hgd hq (by simp [binOp]) (by simp [binOp]) hs
      · exact hs.elim
    · exact hs.elim
  · split at hs
    · rename_i p hA
      obtain rfl := isBool_rep hA ra
      split at hs
      · rename_i q hB
        obtain rfl := isBool_rep hB rb
        split at hs
        · rename_i hU
          exact eqF_sound i (fun b => by simp [rep]) (guardOk (eqGuard_at_bool ..)) (run_equalIn_bool' w 9999 t p q hU) (by simp [binOp]) (by simp [binOp]) hs
        · exact hs.elim
      · exact hs.elim
    · exact nil_sound hs i ra rb

end
end Go.Sym

namespace Go.Sym

section
variable {P : Program} {F : Fix} {V : View} {h : Heap} {w : World} {T : AV → Prop}

theorem run_sizeT {t : TypeId} {n : Nat} (e : sizeT P t = some n) (w : World) : (sizeOf t).run P w = .ok n w := by
  unfold sizeT at e
  cases hi : P.info? t with
  | none => simp [hi] at e
  | some i => simp only [hi, Option.some.injEq] at e; simp [sizeOf, typeInfo, hi, e]

theorem run_isAggT {t : TypeId} {b : Bool} (e : isAggT P t = some b) (w : World) : (isAgg t).run P w = .ok b w := by
  unfold isAggT at e
  cases hu : P.underlying t with
  | none => simp [hu] at e
  | some u =>
    unfold isAgg
    simp only [Sem.run_bind, run_underlying hu, Result.andThen_ok]
    cases u <;> simp_all

theorem ofVs_rep : ∀ (l : List Value) (r : List AV), ofV.ofVs l = some r → repL F V r l ∧ ∀ x ∈ l, x.oneCell' = true
  | [], r, e => by simp only [ofV.ofVs, Option.some.injEq] at e; subst e; simp [repL]
  | v :: l, r, e => by
    unfold ofV.ofVs at e
    split at e
    · cases e
    rename_i r' h'
    obtain ⟨ih, ih2⟩ := ofVs_rep l r' h'
    have fin : ∀ a, rep F V a v → v.oneCell' = true → r = a :: r' → repL F V r (v :: l) ∧ ∀ x ∈ v :: l, x.oneCell' = true := by
      intro a ha ho hr
      subst hr
      refine ⟨by simp only [repL]; exact ⟨v, l, rfl, ha, ih⟩, ?_⟩
      intro x hx
      cases hx with
      | head => exact ho
      | tail _ hx => exact ih2 x hx
    split at e <;> (try (cases e; done)) <;> simp only [Option.some.injEq] at e <;> refine fin _ ?_ ?_ e.symm <;> first
      | (simp [rep]; done)
      | rfl
      | skip
    all_goals (cases v <;> first | rfl | (simp_all; done))

theorem ofV_rep (v : Value) : rep F V (ofV v) v := by
  unfold ofV
  split <;> (try (simp [rep]; done))
  split
  · rename_i cs _ l hl
    obtain ⟨h1, h2⟩ := ofVs_rep (F := F) (V := V) _ _ hl
    simp only [rep]
    exact ⟨cs.toList, by simp, h1, h2⟩
  · simp [rep]

theorem scalar_one {a : AV} {v : Value} (hs : scalar a = true) (r : rep F V a v) : v.oneCell' = true := by
  cases a <;> simp only [scalar, Bool.false_eq_true] at hs <;> simp only [rep] at r
  case sl p k els => rcases r with ⟨b, o, cap, vs, rfl, -⟩ | ⟨-, ⟨q, rfl⟩, -⟩ <;> rfl
  case vec id k n c =>
    obtain ⟨b, -, -, rfl⟩ := r
    rfl
  all_goals first
    | (subst r; rfl)
    | (obtain ⟨b, _, rfl⟩ := r; rfl)
    | (obtain ⟨b, rfl, _⟩ := r; rfl)
    | (obtain ⟨b, o, x, rfl, _⟩ := r; rfl)

/-- A part of a row: what the model reads. -/
theorem part_sound {t : TypeId} {l : List AV} {off : Nat} {g : AV → AV} {vs : List Value} (hs : (partT P t l off g).sat T) (hl : repL F V l vs) (ho : ∀ x ∈ vs, x.oneCell' = true) :
    ∃ a x, T (g a) ∧ rep F V a x ∧
      ((isAggT P t = some true ∧ ∃ n, sizeT P t = some n ∧ off + n ≤ vs.length ∧ x = .agg ((vs.drop off).take n).toArray) ∨ (isAggT P t = some false ∧ vs[off]? = some x)) := by
  unfold partT at hs
  split at hs
  · rename_i hA
    split at hs
    · rename_i n hn
      cases hb : Nat.ble (off + n) l.length with
      | false => simp [hb, FR.sat] at hs
      | true =>
      simp only [hb, cond_true, FR.sat] at hs
      have := Nat.le_of_ble_eq_true hb
      refine ⟨_, .agg ((vs.drop off).take n).toArray, hs, ?_, .inl ⟨hA, n, hn, by rw [← hl.length]; exact this, rfl⟩⟩
      simp only [rep]
      exact ⟨_, rfl, (hl.drop off).take n, fun x hx => ho x (List.mem_of_mem_drop (List.mem_of_mem_take hx))⟩
    · exact hs.elim
  · rename_i hA
    split at hs
    · rename_i v r hd
      have h0 : l[off]? = some v := by
        have : (l.drop off)[0]? = some v := by rw [hd]; rfl
        simpa using this
      obtain ⟨x, hx, hr⟩ := hl.get off v h0
      exact ⟨v, x, hs, hr, .inr ⟨hA, hx⟩⟩
    · exact hs.elim
  · exact hs.elim

theorem run_part {t : TypeId} {off : Nat} {vs : List Value} {x : Value}
    (hx : (isAggT P t = some true ∧ ∃ n, sizeT P t = some n ∧ off + n ≤ vs.length ∧ x = .agg ((vs.drop off).take n).toArray) ∨ (isAggT P t = some false ∧ vs[off]? = some x)) (w : World) :
    (part t vs.toArray off).run P w = .ok x w := by
  unfold part
  rcases hx with ⟨hA, n, hn, hle, rfl⟩ | ⟨hA, hx⟩
  · simp only [Sem.run_bind, run_isAggT hA, Result.andThen_ok, if_true, run_sizeT hn, Sem.run_pure]
    congr 2
    apply Array.ext'
    simp [List.take_drop]
  · simp only [Sem.run_bind, run_isAggT hA, Result.andThen_ok, Bool.false_eq_true, if_false]
    have : vs.toArray[off]? = some x := by simpa using hx
    simp [this]

theorem run_loadVar {t : TypeId} {b off : Nat} {vs : List Value} {x : Value} (hc : ∀ (i : Nat) (y : Value), vs[i]? = some y → w.cell? ⟨b, i, none⟩ = some y)
    (hx : (isAggT P t = some true ∧ ∃ n, sizeT P t = some n ∧ off + n ≤ vs.length ∧ x = .agg ((vs.drop off).take n).toArray) ∨ (isAggT P t = some false ∧ vs[off]? = some x)) :
    (loadVar t ⟨b, off, none⟩).run P w = .ok x w := by
  unfold loadVar
  rcases hx with ⟨hA, n, hn, hle, rfl⟩ | ⟨hA, hx⟩
  · simp only [Sem.run_bind, run_isAggT hA, Result.andThen_ok, if_true, run_sizeT hn]
    have hlen : ((vs.drop off).take n).length = n := by simp; omega
    have := run_loadCells_list (P := P) w ⟨b, off, none⟩ ((vs.drop off).take n) (fun j y hy => by
      rw [Addr.add_lit]
      rw [List.getElem?_take] at hy
      split at hy
      · rw [List.getElem?_drop] at hy; exact hc _ _ hy
      · simp at hy)
    rw [hlen] at this
    simp [this]
  · simp [run_isAggT hA, hc off x hx]

theorem objCells (i : Inv F V h w) {id : Nat} {l : List AV} (hg : get h id = some (.cells l)) :
    ∃ b vs e, V.obj id = some b ∧ w.heap[b]? = some (.cells vs e (0, 0)) ∧ repL F V l (vs.toList.take l.length) ∧ (∀ x ∈ vs.toList.take l.length, x.oneCell' = true) ∧ ∀ (k : Nat) (y : Value), (vs.toList.take l.length)[k]? = some y → w.cell? ⟨b, k, none⟩ = some y := by
  obtain ⟨b, vs, e, hv, hh, hr, ho⟩ := i.objs id _ hg
  exact ⟨b, vs, e, hv, hh, hr, ho, fun k y hy => by
    rw [List.getElem?_take] at hy
    split at hy
    · simp only [World.cell?, hh]; simpa using hy
    · cases hy⟩

theorem fixCells (i : Inv F V h w) {b o : Nat} {vs : List Value} (hf : FixedAt F b o vs) : ∀ (k : Nat) (y : Value), vs[k]? = some y → w.cell? ⟨b, o + k, none⟩ = some y :=
  fun k y hy => i.fixed _ _ _ (hf k y hy)

/-- A value read whole from fixed cells. -/
theorem run_loadVar_fix {t : TypeId} (i : Inv F V h w) {b o : Nat} {x : Value} (hf : FixedAt F b o x.cells.toList)
    (hx : (isAggT P t = some true ∧ ∃ n cs, sizeT P t = some n ∧ x = .agg cs ∧ cs.size = n) ∨ (isAggT P t = some false ∧ x.cells = #[x])) :
    (loadVar t ⟨b, o, none⟩).run P w = .ok x w := by
  unfold loadVar
  rcases hx with ⟨hA, n, cs, hn, rfl, hc⟩ | ⟨hA, hx⟩
  · simp only [Sem.run_bind, run_isAggT hA, Result.andThen_ok, if_true, run_sizeT hn]
    have := run_loadCells_list (P := P) w ⟨b, o, none⟩ cs.toList (fun j y hy => by
      rw [Addr.add_lit]
      exact fixCells i hf j y (by simpa [Value.cells] using hy))
    rw [show cs.toList.length = n by simpa using hc] at this
    simp [this]
  · have := fixCells i hf 0 x (by simp [hx])
    simp only [Nat.add_zero] at this
    simp [run_isAggT hA, this]

theorem fieldT_run {s : TypeId} {f : Nat} {t : TypeId} {off : Nat} (e : fieldT P s f = some (t, off)) :
    ∃ (fs : Array Field) (x : Field) (n : Nat), P.underlying s = some (.struct fs) ∧ fs[f]? = some x ∧ x.type = t ∧ x.offset = off ∧ sizeT P t = some n ∧ n ≠ 0 := by
  unfold fieldT at e
  split at e
  · rename_i fs hu
    split at e
    · rename_i x hx
      split at e
      · cases e
      · rename_i n hn hsz
        simp only [Option.some.injEq, Prod.mk.injEq] at e
        exact ⟨fs, x, n, hu, by simpa using hx, e.1, e.2, by rw [← e.1]; exact hsz, hn⟩
      · cases e
    · cases e
  · cases e

theorem run_fieldAt {s : TypeId} {f : Nat} {t : TypeId} {off : Nat} (e : fieldT P s f = some (t, off)) (b o : Nat) :
    (Instr.fieldAt s (.pointer (some ⟨b, o, none⟩)) f).run P w = .ok (.pointer (some ⟨b, o + off, none⟩)) w := by
  obtain ⟨fs, x, n, hu, hx, rfl, rfl, hn, hn0⟩ := fieldT_run e
  simp only [Instr.fieldAt, Sem.run_bind, run_underlying hu, Result.andThen_ok, hx, Instr.sureAddr, Sem.run_pure, fieldPlace, run_sizeT hn, if_neg hn0, Addr.add_lit]

theorem fieldAddr_sound {s : TypeId} {f : Nat} {a : AV} {v : Value} (i : Inv F V h w) (ra : rep F V a v)
    (hs : (fieldAddrF P s a f).sat T) : Gives P F V h w T (Instr.fieldAt s v f) := by
  unfold fieldAddrF at hs
  cases hf : fieldT P s f with
  | none => simp [hf, FR.sat] at hs
  | some tf =>
  obtain ⟨t, off⟩ := tf
  simp only [hf] at hs
  cases a <;> try exact hs.elim
  case ptr id o =>
    simp only [rep] at ra
    obtain ⟨b, hb, rfl⟩ := ra
    exact .pure i hs (run_fieldAt hf b _) (by simp only [rep]; exact ⟨b, hb, rfl⟩)
  case aptr id o =>
    simp only [rep] at ra
    obtain ⟨b, hb, rfl⟩ := ra
    exact .pure i hs (run_fieldAt hf b _) (by simp only [rep]; exact ⟨b, hb, rfl⟩)
  case ref u =>
    cases u <;> try exact hs.elim
    rename_i l
    simp only [rep] at ra
    obtain ⟨b, o, x, rfl, ⟨vs, rfl, hl, ho⟩, hfx⟩ := ra
    obtain ⟨a', x', hT, hr, hx⟩ := part_sound hs hl ho
    refine .pure i hT (run_fieldAt hf b _) ?_
    simp only [rep]
    refine ⟨b, o + off, x', rfl, hr, ?_⟩
    intro k y hy
    rw [Nat.add_assoc]
    refine hfx _ _ ?_
    simp only [Value.cells]
    rcases hx with ⟨_, n, _, hle, rfl⟩ | ⟨_, hx⟩
    · simp only [Value.cells] at hy
      rw [List.getElem?_take] at hy
      split at hy
      · rw [List.getElem?_drop] at hy
        exact hy
      · simp at hy
    · rw [cells_one (ho x' (List.mem_of_getElem? hx))] at hy
      cases k with
      | zero => simp at hy; subst hy; simpa using hx
      | succ k => simp at hy

theorem field_sound {s : TypeId} {f : Nat} {a : AV} {v : Value} (i : Inv F V h w) (ra : rep F V a v) (hs : (fieldF P s a f).sat T) : Gives P F V h w T (Instr.field s v f) := by
  unfold fieldF at hs
  cases hf : fieldT P s f with
  | none => simp [hf, FR.sat] at hs
  | some tf =>
  obtain ⟨t, off⟩ := tf
  simp only [hf] at hs
  cases a <;> try exact hs.elim
  rename_i l
  simp only [rep] at ra
  obtain ⟨vs, rfl, hl, ho⟩ := ra
  obtain ⟨a', x', hT, hr, hx⟩ := part_sound hs hl ho
  obtain ⟨fs, x, n, hu, hxf, rfl, rfl, hn, hn0⟩ := fieldT_run hf
  refine .pure i hT ?_ hr
  simp only [Instr.field, Sem.run_bind, run_underlying hu, Result.andThen_ok, hxf, asAgg, Sem.run_pure]
  exact run_part hx w

theorem load_sound {t : TypeId} {a : AV} {v : Value} (i : Inv F V h w) (ra : rep F V a v)
    (hs : (loadF P t a h).sat T) : Gives P F V h w T (Instr.loadAt t v) := by
  unfold loadF at hs
  cases a <;> try exact hs.elim
  case ptr id off =>
    simp only [rep] at ra
    obtain ⟨b, hb, rfl⟩ := ra
    cases hg : get h id with
    | none => simp [hg, FR.sat] at hs
    | some ob =>
    cases ob <;> simp only [hg] at hs <;> try exact hs.elim
    rename_i l
    obtain ⟨b', vs, e, hv, hh, hl, ho, hc⟩ := objCells i hg
    rw [hb] at hv; cases hv
    obtain ⟨a', x', hT, hr, hx⟩ := part_sound hs hl ho
    refine .pure i hT ?_ hr
    simp only [Instr.loadAt, Sem.run_bind, Instr.sureAddr, Sem.run_pure, Result.andThen_ok]
    exact run_loadVar hc hx
  case ref u =>
    simp only [rep] at ra
    obtain ⟨b, o, x, rfl, hx, hf⟩ := ra
    have key : (isAggT P t = some true ∧ ∃ n cs, sizeT P t = some n ∧ x = .agg cs ∧ cs.size = n) ∨ (isAggT P t = some false ∧ x.cells = #[x]) → T u → Gives P F V h w T (Instr.loadAt t (.pointer (some ⟨b, o, none⟩))) := by
      intro hk hT
      refine .pure i hT ?_ hx
      simp only [Instr.loadAt, Sem.run_bind, Instr.sureAddr, Sem.run_pure, Result.andThen_ok]
      exact run_loadVar_fix i hf hk
    cases hA : isAggT P t with
    | none => simp [hA, FR.sat] at hs
    | some ag =>
    cases ag with
    | false =>
      simp only [hA] at hs
      cases hsc : scalar u with
      | false => simp [hsc, FR.sat] at hs
      | true =>
      simp only [hsc, cond_true, FR.sat] at hs
      exact key (.inr ⟨hA, cells_one (scalar_one hsc hx)⟩) hs
    | true =>
      simp only [hA] at hs
      cases hn : sizeT P t with
      | none => cases u <;> simp [hn, FR.sat] at hs
      | some n =>
      cases u <;> simp only [hn] at hs <;> try exact hs.elim
      rename_i l
      cases hb : Nat.beq l.length n with
      | false => simp [hb, FR.sat] at hs
      | true =>
      simp only [hb, cond_true, FR.sat] at hs
      have hl := Nat.eq_of_beq_eq_true hb
      have hx' := hx
      simp only [rep] at hx'
      obtain ⟨vs, rfl, hr, ho⟩ := hx'
      exact key (.inl ⟨hA, n, vs.toArray, hn, rfl, by simp [← hr.length, hl]⟩) hs
  case aptr id j =>
    simp only [rep] at ra
    obtain ⟨b, hb, rfl⟩ := ra
    cases hg : get h id with
    | none => simp [hg, FR.sat] at hs
    | some ob =>
    cases ob <;> simp only [hg] at hs <;> try exact hs.elim
    rename_i l
    cases hA : isAggT P t with
    | none => simp [hA, FR.sat] at hs
    | some ag =>
    cases ag <;> simp only [hA] at hs <;> try exact hs.elim
    obtain ⟨b', vs, e, hv, hh, hl, ho, hc⟩ := objCells i hg
    rw [hb] at hv; cases hv
    obtain ⟨el, ⟨_, hel⟩, hT⟩ := hs
    obtain ⟨x, hx, hr⟩ := hl.get _ _ hel
    refine .pure i hT ?_ hr
    simp only [Instr.loadAt, Sem.run_bind, Instr.sureAddr, Sem.run_pure, Result.andThen_ok]
    exact run_loadVar hc (.inr ⟨hA, by simpa using hx⟩)

theorem flat_get {k : Nat} : ∀ {vs : List Value} {i j : Nat} {x y : Value}, (∀ x ∈ vs, elemOk k x) → vs[i]? = some x → x.cells[j]? = some y → (flat vs)[i * width k + j]? = some y
  | [], i, j, x, y, _, hx, _ => by simp at hx
  | v :: vs, 0, j, x, y, hk, hx, hy => by
    simp at hx; subst hx
    have hsz := (hk v (List.mem_cons_self)).cells
    have hj : j < v.cells.size := by
      rcases Nat.lt_or_ge j v.cells.size with h' | h'
      · exact h'
      · simp [Array.getElem?_eq_none h'] at hy
    simp only [flat, List.flatMap_cons, Nat.zero_mul, Nat.zero_add]
    rw [List.getElem?_append_left (by simpa using hj)]
    simpa using hy
  | v :: vs, i + 1, j, x, y, hk, hx, hy => by
    have hsz := (hk v (List.mem_cons_self)).cells
    have ih := flat_get (k := k) (vs := vs) (i := i) (j := j) (fun x hx => hk x (List.mem_cons_of_mem _ hx)) (by simpa using hx) hy
    simp only [flat, List.flatMap_cons] at ih ⊢
    have hl : v.cells.toList.length = width k := by simpa using hsz
    rw [List.getElem?_append_right (by rw [hl, Nat.add_mul]; omega), hl]
    rw [show (i + 1) * width k + j - width k = i * width k + j by rw [Nat.add_mul]; omega]
    exact ih

theorem flat_length {k : Nat} : ∀ {vs : List Value}, (∀ x ∈ vs, elemOk k x) → (flat vs).length = vs.length * width k
  | [], _ => by simp [flat]
  | v :: vs, hk => by
    have hsz := (hk v (List.mem_cons_self)).cells
    have ih := flat_length (k := k) (vs := vs) (fun x hx => hk x (List.mem_cons_of_mem _ hx))
    simp only [flat, List.flatMap_cons, List.length_append, List.length_cons] at ih ⊢
    rw [ih, Nat.add_mul]
    simp [hsz]; omega

theorem flat_append (vs ws : List Value) : flat (vs ++ ws) = flat vs ++ flat ws := by simp [flat]

theorem kindT_size {e : TypeId} {k : Nat} (hk : kindT P e = some k) : sizeT P e = some (width k) ∧ isAggT P e = some (k != 0) := by
  unfold kindT at hk
  split at hk
  · rename_i n h1 h2
    cases hk
    exact ⟨by simp [h2, width], by simp [h1]⟩
  · rename_i h1 h2
    cases hk
    exact ⟨by simp [h2, width], by simp [h1]⟩
  · cases hk

theorem elemSize_run {t : TypeId} {k : Nat} (hk : elemSize P t = some k) : ∃ e, P.underlying t = some (.slice e) ∧ kindT P e = some k := by
  unfold elemSize at hk
  cases he : elemT P t with
  | none => simp [he] at hk
  | some e =>
    simp only [he] at hk
    unfold elemT at he
    split at he
    · rename_i e' hu
      cases he
      exact ⟨e, hu, hk⟩
    · cases he

theorem index_sound {t : TypeId} {a ia : AV} {v iv : Value} (i : Inv F V h w) (ra : rep F V a v) (ri : rep F V ia iv)
    (hs : (indexF P t a ia).sat T) : Gives P F V h w T (Instr.indexAt t v iv) := by
  unfold indexF at hs
  cases he : elemSize P t with
  | none => simp [he, FR.sat] at hs
  | some sz =>
  simp only [he] at hs
  obtain ⟨e, hu, hk⟩ := elemSize_run he
  obtain ⟨hsz, hag⟩ := kindT_size hk
  cases ia <;> try exact hs.elim
  rename_i ki n
  simp only [rep] at ri
  subst ri
  cases a <;> try exact hs.elim
  case sl p k els =>
    cases hb : Nat.beq k sz with
    | false => simp [hb, FR.sat] at hs
    | true =>
    simp only [hb, cond_true, FR.sat] at hs
    obtain rfl := Nat.eq_of_beq_eq_true hb
    obtain ⟨el, ⟨h0, hel⟩, hT⟩ := hs
    simp only [rep] at ra
    rcases ra with ⟨b, o, cap, vs, rfl, hl, hek, hf, hp⟩ | ⟨rfl, -⟩
    · obtain ⟨x, hx, hr⟩ := hl.get _ _ hel
      have hlt : n.toNat < vs.length := by
        rcases Nat.lt_or_ge n.toNat vs.length with h' | h'
        · exact h'
        · simp [List.getElem?_eq_none h'] at hx
      refine .pure (v := .pointer (some ⟨b, o + n.toNat * width k, none⟩)) i hT ?_ ?_
      · have hn : 0 ≤ n ∧ n < (vs.length : Int) := ⟨h0, by omega⟩
        simp only [Instr.indexAt, asIntOf, Sem.run_bind, Sem.run_pure, Result.andThen_ok, run_underlying hu, Bool.and_false, if_pos hn, run_sizeT hsz, Addr.add_lit]
      · simp only [rep]
        refine ⟨b, o + n.toNat * width k, x, rfl, hr, fun j y hy => ?_⟩
        rw [Nat.add_assoc]
        exact hf _ _ (flat_get hek hx (by simpa using hy))
    · simp at hel
  case arr id k len =>
    cases hb : Nat.beq k sz with
    | false => simp [hb, FR.sat] at hs
    | true =>
    simp only [hb, cond_true, FR.sat] at hs
    obtain rfl := Nat.eq_of_beq_eq_true hb
    obtain ⟨hn, hT⟩ := hs
    simp only [rep] at ra
    obtain ⟨b, hv, rfl⟩ := ra
    refine .pure (v := .pointer (some ⟨b, n.toNat * width k, none⟩)) i hT ?_ ?_
    · simp only [Instr.indexAt, asIntOf, Sem.run_bind, Sem.run_pure, Result.andThen_ok, run_underlying hu, Bool.and_false, if_pos hn, run_sizeT hsz, Addr.add_lit, Nat.zero_add]
    · simp only [rep]
      exact ⟨b, hv, rfl⟩
  case vec id k len lc =>
    cases hb : Nat.beq k sz with
    | false => simp [hb, FR.sat] at hs
    | true =>
    simp only [hb, cond_true, FR.sat] at hs
    obtain rfl := Nat.eq_of_beq_eq_true hb
    obtain ⟨hn, hT⟩ := hs
    simp only [rep] at ra
    obtain ⟨b, -, hv, rfl⟩ := ra
    refine .pure (v := .pointer (some ⟨b, n.toNat * width k, none⟩)) i hT ?_ ?_
    · simp only [Instr.indexAt, asIntOf, Sem.run_bind, Sem.run_pure, Result.andThen_ok, run_underlying hu, Bool.and_false, if_pos hn, run_sizeT hsz, Addr.add_lit, Nat.zero_add]
    · simp only [rep]
      exact ⟨b, hv, rfl⟩

theorem indexStr_sound {t : TypeId} {a ia : AV} {v iv : Value} (i : Inv F V h w) (ra : rep F V a v) (ri : rep F V ia iv)
    (hs : (indexStrF P t a ia).sat T) : Gives P F V h w T (Instr.index t v iv) := by
  unfold indexStrF at hs
  cases hu : P.underlying t with
  | none => simp [hu, FR.sat] at hs
  | some u =>
  cases u <;> simp only [hu] at hs <;> try exact hs.elim
  cases a <;> try exact hs.elim
  cases ia <;> try exact hs.elim
  simp only [rep] at ra ri
  subst ra; subst ri
  rename_i s k n
  obtain ⟨el, ⟨h0, hel⟩, hT⟩ := hs
  simp only [u8s, List.getElem?_map, Option.map_eq_some_iff] at hel
  obtain ⟨c, hc, rfl⟩ := hel
  have hlt : n.toNat < s.length := by
    rcases Nat.lt_or_ge n.toNat s.length with h' | h'
    · exact h'
    · simp [List.getElem?_eq_none h'] at hc
  refine .pure (v := .int .u8 c.toNat) i hT ?_ (by simp [rep, u8])
  have hsz : (ByteArray.mk s.toArray).size = s.length := by simp [ByteArray.size]
  have hn : 0 ≤ n ∧ n < ((ByteArray.mk s.toArray).size : Int) := ⟨h0, by omega⟩
  rw [run_index_string w t _ k n hu, dif_pos hn]
  have : (ByteArray.mk s.toArray)[n.toNat]'(by omega) = c := by
    have h1 : s[n.toNat]? = some (s[n.toNat]'hlt) := List.getElem?_eq_getElem hlt
    rw [h1] at hc; cases hc
    rfl
  rw [this]

theorem toBytes_int (s : List UInt8) : (s.map fun b => Value.int .u8 b.toNat).length = s.length := by simp

theorem u8s_rep (s : List UInt8) : repL F V (u8s s) (s.map fun b => Value.int .u8 b.toNat) := by
  refine repL.of_get (by simp [u8s]) fun i a x ha hx => ?_
  simp only [u8s, List.getElem?_map, Option.map_eq_some_iff] at ha hx
  obtain ⟨c, hc, rfl⟩ := ha
  obtain ⟨d, hd, rfl⟩ := hx
  rw [hc] at hd; cases hd
  simp [u8, rep]

theorem u8s_inv {s : List UInt8} {vs : List Value} (h : repL F V (u8s s) vs) : vs = s.map fun b => Value.int .u8 b.toNat := by
  apply List.ext_getElem?
  intro j
  have hl := h.length
  simp only [u8s, List.length_map] at hl
  by_cases hj : j < s.length
  · obtain ⟨x, hx, hr⟩ := h.get j (u8 s[j]) (by simp [u8s, hj])
    simp only [u8, rep] at hr
    rw [hx]; simp [hj, hr]
  · rw [List.getElem?_eq_none (by omega), List.getElem?_eq_none (by simp; omega)]

theorem flat_ints (s : List UInt8) : flat (s.map fun b => Value.int .u8 b.toNat) = s.map fun b => Value.int .u8 b.toNat := by
  induction s with
  | nil => rfl
  | cons c s ih => simp only [flat, List.map_cons, List.flatMap_cons] at ih ⊢; rw [ih]; simp [Value.cells]

/-- '[]byte(s)': a new row. -/
theorem strBytes_sound {src dst e : TypeId} {u : TypeDesc} {s : List UInt8} (i : Inv F V h w) (hsrc : P.underlying src = some u) (hd : P.underlying dst = some (.slice e)) (he : P.underlying e = some (.int .u8))
    (hT : T (.sl .none 0 (u8s s))) : Gives P F V h w T (convert src dst (.string ⟨s.toArray⟩)) := by
  have hrun := Lib.run_convert_string_bytes (P := P) w src dst e ⟨s.toArray⟩ hsrc hd he
  have hsz : (ByteArray.mk s.toArray).size = s.length := by simp [ByteArray.size]
  have hw : (Lib.bytesWorld w e ⟨s.toArray⟩).heap = (w.alloc (.cells (Lib.bytesCells w e ⟨s.toArray⟩) e ((Lib.bytesCells w e ⟨s.toArray⟩).size, (Lib.bytesCells w e ⟨s.toArray⟩).size + 1))).heap := by
    apply Array.ext
    · rw [Lib.bytesWorld_size]; simp
    · intro j h1 h2
      rw [Lib.bytesWorld_size] at h1
      have a1 : (Lib.bytesWorld w e ⟨s.toArray⟩).heap[j]? = (w.alloc (.cells (Lib.bytesCells w e ⟨s.toArray⟩) e ((Lib.bytesCells w e ⟨s.toArray⟩).size, (Lib.bytesCells w e ⟨s.toArray⟩).size + 1))).heap[j]? := by
        by_cases hj : j < w.heap.size
        · rw [Lib.bytesWorld_at_old w e _ j hj, heap_old w _ hj]
        · have : j = w.heap.size := by omega
          subst this
          rw [Lib.bytesWorld_at_new, heap_new]
      rw [Array.getElem?_eq_getElem (by rw [Lib.bytesWorld_size]; exact h1), Array.getElem?_eq_getElem h2] at a1
      exact Option.some.inj a1
  have i2 := i.alloc (Lib.bytesCells w e ⟨s.toArray⟩) e ((Lib.bytesCells w e ⟨s.toArray⟩).size, (Lib.bytesCells w e ⟨s.toArray⟩).size + 1)
  have st := Step.alloc i (Lib.bytesCells w e ⟨s.toArray⟩) (.cells (Lib.bytesCells w e ⟨s.toArray⟩) e ((Lib.bytesCells w e ⟨s.toArray⟩).size, (Lib.bytesCells w e ⟨s.toArray⟩).size + 1))
  refine ⟨_, _, _, _, hT, hrun, ?_, i2.heap_eq hw, ⟨st.fix, st.view, st.own, st.newfix, ?_, ?_, rfl, rfl, rfl, Nat.le_succ _⟩⟩
  · simp only [rep]
    refine .inl ⟨w.heap.size, 0, grownCap w (ByteArray.mk s.toArray).size 0 e, s.map fun b => Value.int .u8 b.toNat, by simp [hsz], u8s_rep s, ?_, ?_, ?_⟩
    · intro x hx
      simp only [List.mem_map] at hx
      obtain ⟨c, _, rfl⟩ := hx
      simp [elemOk, Value.oneCell']
    · rw [flat_ints]
      intro j y hy
      simp only [addF, if_true, Nat.zero_add, Lib.bytesCells]
      simp only [List.getElem?_map, Option.map_eq_some_iff] at hy
      obtain ⟨c, hc, rfl⟩ := hy
      have hj : j < s.length := by
        rcases Nat.lt_or_ge j s.length with h' | h'
        · exact h'
        · simp [List.getElem?_eq_none h'] at hc
      rw [Array.getElem?_append_left (by simpa using hj)]
      simp [hc]
    · have := grownCap_ge w (ByteArray.mk s.toArray).size 0 e
      simpa [permOk, hsz] using this
  · rw [hw]; exact st.size
  · intro b hb hn
    rw [hw]; exact st.touch b hb hn

theorem loadBytes {b o : Nat} {s : List UInt8} (i : Inv F V h w) (hf : FixedAt F b o (flat (s.map fun c => Value.int .u8 c.toNat))) :
    (loadCells ⟨b, o, none⟩ s.length).run P w = .ok (s.map fun c => Value.int .u8 c.toNat).toArray w := by
  rw [flat_ints] at hf
  have := run_loadCells_list (P := P) w ⟨b, o, none⟩ (s.map fun c => Value.int .u8 c.toNat) (fun j y hy => by rw [Addr.add_lit]; exact fixCells i hf j y hy)
  simpa using this

end
end Go.Sym

namespace Go.Sym

section
variable {P : Program} {F : Fix} {V : View} {h : Heap} {w : World} {T : AV → Prop}

theorem conv_sound {src dst : TypeId} {a : AV} {v : Value} (i : Inv F V h w) (ra : rep F V a v) (hsrc : ∃ u, P.underlying src = some u) (hs : (convV P src dst a).sat T) :
    Gives P F V h w T (convert src dst v) := by
  obtain ⟨us, hus⟩ := hsrc
  unfold convV at hs
  cases a <;> try exact hs.elim
  case int k n =>
    simp only [rep] at ra
    subst ra
    cases hd : P.underlying dst with
    | none => simp [hd, FR.sat] at hs
    | some u =>
    cases u <;> simp only [hd] at hs <;> try exact hs.elim
    exact .int i hs (by simp [convert, run_underlying hus, run_underlying hd, Conv.intToInt])
  case str s =>
    simp only [rep] at ra
    subst ra
    cases hd : P.underlying dst with
    | none => simp [hd, FR.sat] at hs
    | some u =>
    cases u <;> simp only [hd] at hs <;> try exact hs.elim
    case string => exact .str i hs (by simp [convert, run_underlying hus, run_underlying hd])
    case slice e =>
      cases he : P.underlying e with
      | none => simp [he, FR.sat] at hs
      | some ue =>
      cases ue <;> simp only [he] at hs <;> try exact hs.elim
      rename_i k
      cases k <;> simp only at hs <;> try exact hs.elim
      exact strBytes_sound i hus hd he hs
  case nils =>
    simp only [rep] at ra
    subst ra
    cases us <;> simp only [hus] at hs <;> try exact hs.elim
    rename_i e
    cases hd : P.underlying dst with
    | none => simp [hd, FR.sat] at hs
    | some u =>
    cases u <;> simp only [hd] at hs <;> try exact hs.elim
    cases he : P.underlying e with
    | none => simp [he, FR.sat] at hs
    | some ue =>
    cases ue <;> simp only [he] at hs <;> try exact hs.elim
    rename_i k
    cases k <;> simp only at hs <;> try exact hs.elim
    exact .str i hs (by rw [run_convert_bytes_nil w src e hus he 0 0 dst hd]; rfl)
  case sl p k els =>
    cases us <;> simp only [hus] at hs <;> try exact hs.elim
    rename_i e
    cases hd : P.underlying dst with
    | none => simp [hd, FR.sat] at hs
    | some u =>
    cases u <;> simp only [hd] at hs <;> try exact hs.elim
    cases he : P.underlying e with
    | none => simp [he, FR.sat] at hs
    | some ue =>
    cases ue <;> simp only [he] at hs <;> try exact hs.elim
    rename_i k'
    cases k' <;> simp only at hs <;> try exact hs.elim
    obtain ⟨l, rfl, hT⟩ := hs
    simp only [rep] at ra
    rcases ra with ⟨b, o, cap, vs, rfl, hl, hek, hf, hp⟩ | ⟨hnil, ⟨qa, rfl⟩, hp⟩
    · obtain rfl := u8s_inv hl
      refine .str i hT ?_
      rw [run_convert_bytes_arg w src e hus he b o _ cap (l.map fun c => (c.toNat : Int)) (by simp) (fun j hj => ?_) dst hd]
      · congr 2
        simp only [strOfNums, List.map_map]
        congr 2
        conv => rhs; rw [← List.map_id l]
        apply List.map_congr_left
        intro c _
        simp
      · simp only [List.length_map] at hj
        rw [flat_ints] at hf
        have := fixCells i hf j (.int .u8 (l[j]).toNat) (by simp [hj])
        rw [this]
        simp [List.getD, hj]
    · have : l = [] := by cases l with | nil => rfl | cons => simp [u8s] at hnil
      subst this
      refine .str i hT ?_
      cases qa with
      | none => rw [run_convert_bytes_nil w src e hus he 0 0 dst hd]; rfl
      | some qa => rw [run_convert_bytes_string w src dst e _ 0 0 hus he hd]; simp [Conv.bytesToString, loadCells]; rfl

theorem elem_eq {t e : TypeId} (hu : P.underlying t = some (.slice e)) : P.elem t = e := by simp [Program.elem, hu]

theorem sliced_rep {p' : Perm} {k : Nat} {els : List AV} {b o l hh m : Nat} {vs : List Value} (hl : repL F V els vs) (hek : ∀ x ∈ vs, elemOk k x) (hf : FixedAt F b o (flat vs))
    (h1 : l ≤ hh) (h2 : hh ≤ vs.length) (h3 : hh ≤ m) (hp : permOk V p' b (if m = l then o else o + l * width k) k (hh - l) (m - l)) :
    rep F V (.sl p' k ((els.take hh).drop l)) (sliced (some ⟨b, o, none⟩) l hh m (width k)) := by
  simp only [rep]
  refine .inl ⟨b, if m = l then o else o + l * width k, m - l, (vs.take hh).drop l, ?_, (hl.take hh).drop l, fun x hx => hek x (List.mem_of_mem_take (List.mem_of_mem_drop hx)), ?_, ?_⟩
  · simp only [sliced, List.length_drop, List.length_take, Nat.min_eq_left h2]
    split
    · rfl
    · simp [Addr.add_lit]
  · by_cases hm : m = l
    · have : hh = l := by omega
      subst this
      intro j y hy
      simp [flat] at hy
    · rw [if_neg hm]
      intro j y hy
      rw [Nat.add_assoc]
      refine hf _ _ ?_
      have e1 : flat (vs.take hh) = flat ((vs.take hh).take l) ++ flat ((vs.take hh).drop l) := by rw [← flat_append, List.take_append_drop]
      have e2 : flat vs = flat (vs.take hh) ++ flat (vs.drop hh) := by rw [← flat_append, List.take_append_drop]
      have hlt : (flat ((vs.take hh).take l)).length = l * width k := by
        rw [flat_length (k := k) (fun x hx => hek x (List.mem_of_mem_take (List.mem_of_mem_take hx)))]
        simp only [List.length_take, Nat.min_eq_left h2, Nat.min_eq_left h1]
      have hjl : j < (flat ((vs.take hh).drop l)).length := by
        rcases Nat.lt_or_ge j (flat ((vs.take hh).drop l)).length with h' | h'
        · exact h'
        · simp [List.getElem?_eq_none h'] at hy
      rw [e2, List.getElem?_append_left (by rw [e1, List.length_append, hlt]; omega), e1, List.getElem?_append_right (by omega), hlt, Nat.add_sub_cancel_left]
      exact hy
  · simpa [Nat.min_eq_left h2] using hp

theorem slice_sl_sound {t : TypeId} {p : Perm} {k : Nat} {els : List AV} {v : Value} {lo hi mx : Option AV} {lov hiv mxv : Option Value} (i : Inv F V h w) (ra : rep F V (.sl p k els) v)
    (rlo : ∀ a, lo = some a → ∃ x, lov = some x ∧ rep F V a x) (rlo0 : lo = none → lov = none) (rhi : ∀ a, hi = some a → ∃ x, hiv = some x ∧ rep F V a x) (rhi0 : hi = none → hiv = none)
    (rmx : ∀ a, mx = some a → ∃ x, mxv = some x ∧ rep F V a x) (rmx0 : mx = none → mxv = none)
    (hk : elemSize P t = some k) (hs : (sliceV (.sl p k els) lo hi mx).sat T) : Gives P F V h w T (Instr.sliceAt t v lov hiv mxv) := by
  obtain ⟨e, hu, hke⟩ := elemSize_run hk
  obtain ⟨hsz, -⟩ := kindT_size hke
  have hel := elem_eq hu
  have hu' : P.underlying t = some (.slice (P.elem t)) := by rw [hel]; exact hu
  have hsz' : ∀ w, (sizeOf (P.elem t)).run P w = .ok (width k) w := fun w => by rw [hel]; exact run_sizeT hsz w
  simp only [rep] at ra
  -- the nil slice reads as the empty one
  have main : ∀ (a : Option Addr) (n cap : Nat), v = .slice a n cap → n = els.length → n ≤ cap →
      (∀ (p' : Perm) (l hh m : Nat), l ≤ hh → hh ≤ n → hh ≤ m → m ≤ cap → (p' = .none ∨ (p' = .full ∧ m = hh) ∨ (p' = p ∧ hh = n ∧ m = cap)) → rep F V (.sl p' k ((els.take hh).drop l)) (sliced a l hh m (width k))) →
      Gives P F V h w T (Instr.sliceAt t v lov hiv mxv) := by
    intro a n cap hv hn hc hr
    subst hv
    unfold sliceV at hs
    simp only at hs
    cases lo with
    | none =>
      obtain rfl := rlo0 rfl
      cases hi with
      | none =>
        obtain rfl := rhi0 rfl
        cases mx with
        | some _ => exact hs.elim
        | none =>
        obtain rfl := rmx0 rfl
        have := hr p 0 n cap (Nat.zero_le _) (Nat.le_refl _) hc (Nat.le_refl _) (.inr (.inr ⟨rfl, rfl, rfl⟩))
        refine .pure i hs ?_ (by simpa [hn] using this)
        rw [run_sliceAt_slice w t _ _ _ _ hu', run_slice_all w t a n cap hu', hsz', Result.andThen_ok, hn]
      | some hx =>
        obtain ⟨hxv, rfl, rh⟩ := rhi hx rfl
        cases hx <;> try (cases mx <;> exact hs.elim)
        rename_i kh hn'
        simp only [rep] at rh
        subst rh
        cases mx with
        | none =>
          obtain rfl := rmx0 rfl
          obtain ⟨⟨h0, h1⟩, hT⟩ := hs
          have := hr .none 0 hn'.toNat cap (Nat.zero_le _) (by omega) (by omega) (Nat.le_refl _) (.inl rfl)
          refine .pure i hT ?_ (by simpa using this)
          rw [run_sliceAt_slice w t _ _ _ _ hu', run_slice_h w t a n cap hu' kh hn' h0 (by omega), hsz', Result.andThen_ok]
        | some mx =>
          obtain ⟨mxv', rfl, rm⟩ := rmx mx rfl
          cases mx <;> try exact hs.elim
          rename_i km m'
          simp only [rep] at rm
          subst rm
          obtain ⟨⟨⟨h0, h1⟩, hme⟩, hT⟩ := hs
          subst hme
          have := hr .full 0 m'.toNat m'.toNat (Nat.zero_le _) (by omega) (Nat.le_refl _) (by omega) (.inr (.inl ⟨rfl, rfl⟩))
          refine .pure i hT ?_ (by simpa using this)
          rw [run_sliceAt_slice w t _ _ _ _ hu', run_slice_hm w t a n cap hu' kh km m' m' h0 (Int.le_refl _) (by omega), hsz', Result.andThen_ok]
    | some lx =>
      obtain ⟨lxv, rfl, rl⟩ := rlo lx rfl
      cases lx <;> try (cases hi <;> cases mx <;> first | exact hs.elim | (rename_i q; cases q <;> exact hs.elim) | (rename_i q r; cases q <;> cases r <;> exact hs.elim))
      rename_i kl l'
      simp only [rep] at rl
      subst rl
      cases hi with
      | none =>
        obtain rfl := rhi0 rfl
        cases mx with
        | some _ => exact hs.elim
        | none =>
        obtain rfl := rmx0 rfl
        obtain ⟨⟨h0, h1⟩, hT⟩ := hs
        have := hr p l'.toNat n cap (by omega) (Nat.le_refl _) hc (Nat.le_refl _) (.inr (.inr ⟨rfl, rfl, rfl⟩))
        refine .pure i hT ?_ (by simpa [hn] using this)
        rw [run_sliceAt_slice w t _ _ _ _ hu', run_slice_l w t a n cap hu' kl l' h0 (by omega), hsz', Result.andThen_ok, hn]
      | some hx =>
        obtain ⟨hxv, rfl, rh⟩ := rhi hx rfl
        cases hx <;> try (cases mx <;> exact hs.elim)
        rename_i kh hn'
        simp only [rep] at rh
        subst rh
        cases mx with
        | some _ => exact hs.elim
        | none =>
        obtain rfl := rmx0 rfl
        obtain ⟨⟨⟨h0, h1⟩, h2⟩, hT⟩ := hs
        have := hr .none l'.toNat hn'.toNat cap (by omega) (by omega) (by omega) (Nat.le_refl _) (.inl rfl)
        refine .pure i hT ?_ this
        rw [run_sliceAt_slice w t _ _ _ _ hu', run_slice_lh w t a n cap hu' kl kh l' hn' h0 h1 (by omega), hsz', Result.andThen_ok]
  rcases ra with ⟨b, o, cap, vs, rfl, hl, hek, hf, hp⟩ | ⟨rfl, ⟨qa, rfl⟩, hp⟩
  · refine main _ _ _ rfl hl.length.symm hp.le ?_
    intro p' l hh m h1 h2 h3 h4 hpp
    refine sliced_rep hl hek hf h1 h2 h3 ?_
    rcases hpp with rfl | ⟨rfl, rfl⟩ | ⟨rfl, rfl, rfl⟩
    · simp only [permOk]; omega
    · simp only [permOk]
    · cases p' with
      | none => have := hp.le; simp only [permOk]; omega
      | full => simp only [permOk] at hp ⊢; omega
      | zero => simp only [permOk] at hp ⊢; omega
      | tok tk s =>
        obtain ⟨hle, x, hx, hsx, he⟩ := hp
        refine ⟨by omega, x, hx, hsx, fun e => ?_⟩
        rcases he e with he | ⟨e1, e2, e3⟩
        · exact .inl (by omega)
        · by_cases hml : m = l
          · exact .inl (by omega)
          · right
            rw [if_neg hml]
            refine ⟨e1, ?_, ?_⟩
            · rw [e2, Nat.add_assoc, ← Nat.add_mul]; congr 2; omega
            · rw [Nat.add_assoc, ← Nat.add_mul, Nat.add_sub_cancel' (by omega)]; exact e3
  · refine main _ _ _ rfl rfl (Nat.le_refl _) ?_
    intro p' l hh m h1 h2 h3 h4 hpp
    have e1 : hh = 0 := by omega
    have e2 : l = 0 := by omega
    have e3 : m = 0 := by omega
    subst e1; subst e2; subst e3
    simp only [rep, sliced, List.take_nil, List.drop_nil]
    refine .inr ⟨trivial, by simp, ?_⟩
    rcases hpp with rfl | ⟨rfl, -⟩ | ⟨rfl, -⟩
    · trivial
    · trivial
    · exact hp

end
end Go.Sym
