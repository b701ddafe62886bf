/-
  From a row's reading of an argument to the machine's values; from a contract to the row's answer.
  Conditions: each stands in its theorem.
-/
import Derived.Test.YtlifbhcmihnkpaaSym4
import Derived.WalkKit
import Derived.ProofKit
import Derived.OpenShut
import Derived.ShutString
import Derived.ChangeOld
import Derived.SizedLaws
set_option linter.unusedVariables false
set_option linter.unusedSimpArgs false
namespace Go.Sym

def isElem (k : Nat) (x : AV) (cs : List AV) : Prop := if k = 0 then cs = [x] else x = .agg cs

/-- Do the fields lie one behind the other? -/
def tile (P : Program) : List Field → Nat → Nat → Bool
  | [], off, n => Nat.beq off n
  | f :: fs, off, n => Nat.beq f.offset off && tile P fs (off + P.cellsOf f.type) n

def goodFields (G : TypeId → List AV → Prop) : List Field → List AV → Prop
  | [], l => l = []
  | f :: fs, l => ∃ a b, l = a ++ b ∧ G f.type a ∧ goodFields G fs b

/-- Is every cell of the type one of its fields'? -/
def ones (P : Program) : Nat → TypeId → Bool
  | 0, _ => false
  | n + 1, t => match P.underlying t with
    | some (.struct fs) => tile P fs.toList 0 (P.cellsOf t) && fs.toList.all fun f => ones P n f.type
    | some (.array _ _) | none => false
    | _ => true

theorem addr0 (a : Addr) : a.add 0 = a := by simp [Addr.add]

/-- What the cells of a value of a type, that a row reads, are. -/
def Good (P : Program) : Nat → TypeId → List AV → Prop
  | 0, _, _ => False
  | n + 1, t, l => match P.underlying t with
    | some (.int k) => ∃ x, l = [.int k x] ∧ (Lit.int k x).wf = true
    | some .bool => ∃ b, l = [.bl b]
    | some .string => ∃ s, l = [.str s] ∧ s.length ≤ reachBytes
    | some (.slice e) => ∀ k, kindT P e = some k → ones P 8 e = true → ∃ els, l = [.sl .none k els] ∧ els.length * P.bytesOf e ≤ reachBytes ∧ ∀ x ∈ els, ∃ cs, isElem k x cs ∧ Good P n e cs
    | some (.struct fs) => tile P fs.toList 0 (P.cellsOf t) = true → goodFields (Good P n) fs.toList l
    | _ => True

def F0 (W : World) : Fix := fun b o => W.cell? ⟨b, o, none⟩
def V0 : View := ⟨fun _ => none, fun _ => none⟩

theorem repL_tops {F : Fix} {V : View} : ∀ (cs : List Value), repL F V (cs.map fun _ => .top) cs
  | [] => by simp [repL]
  | c :: cs => by simp only [List.map_cons, repL]; exact ⟨c, cs, rfl, by simp [rep], repL_tops cs⟩

section
variable {H : Type} {enc : TypeId × Value → H} {P : Program} {W : World}

theorem cells_one_of {n : Nat} {t : TypeId} {cs : List Value} {x : DataW H × List MemPlace} (h : DataW.trod enc P W 0 (fun _ => true) true n t cs = some x) (ho : isAggT P t = some false) : ∃ c, cs = [c] ∧ c.oneCell' = true := by
  cases n with
  | zero => simp [DataW.trod] at h
  | succ n =>
    unfold DataW.trod at h
    unfold isAggT at ho
    split at h <;> simp_all [Value.oneCell']

theorem fields_ones {m n : Nat} (ih : ∀ (t : TypeId) (cs : List Value) (x : DataW H × List MemPlace), DataW.trod enc P W 0 (fun _ => true) true n t cs = some x → ones P m t = true → ∀ c ∈ cs, c.oneCell' = true) (cs : List Value) :
    ∀ (fs : List Field) (off : Nat) (xs : List (DataW H × List MemPlace)), tile P fs off cs.length = true → (fs.all fun f => ones P m f.type) = true → xs.length = fs.length →
      (∀ (i : Nat) (f : Field), fs[i]? = some f → DataW.trod enc P W 0 (fun _ => true) true n f.type ((cs.drop f.offset).take (P.cellsOf f.type)) = xs[i]?) → ∀ c ∈ cs.drop off, c.oneCell' = true
  | [], off, xs, ht, _, hl, hh => by
    simp only [tile] at ht
    have := Nat.eq_of_beq_eq_true ht
    subst this
    simp
  | f :: fs, off, xs, ht, ha, hl, hh => by
    cases xs with
    | nil => simp at hl
    | cons x xs =>
    simp only [tile, Bool.and_eq_true] at ht
    simp only [List.all_cons, Bool.and_eq_true] at ha
    have ho := Nat.eq_of_beq_eq_true ht.1
    have h0 := hh 0 f rfl
    rw [ho] at h0
    have e : cs.drop off = (cs.drop off).take (P.cellsOf f.type) ++ cs.drop (off + P.cellsOf f.type) := by
      rw [← List.drop_drop, List.take_append_drop]
    rw [e]
    intro c hc
    rcases List.mem_append.1 hc with hc | hc
    · exact ih _ _ x h0 ha.1 c hc
    · exact fields_ones ih cs fs (off + P.cellsOf f.type) xs ht.2 ha.2 (by simpa using hl) (fun i g hg => by simpa using hh (i + 1) g (by simpa using hg)) c hc

theorem trod_ones : ∀ (m n : Nat) (t : TypeId) (cs : List Value) (x : DataW H × List MemPlace), DataW.trod enc P W 0 (fun _ => true) true n t cs = some x → ones P m t = true → ∀ c ∈ cs, c.oneCell' = true
  | _, 0, t, cs, x, h, _ => by simp [DataW.trod] at h
  | 0, _, t, cs, x, _, ho => by simp [ones] at ho
  | m + 1, n + 1, t, cs, x, h, ho => by
    cases hu : P.underlying t with
    | none => simp [ones, hu] at ho
    | some u =>
    have one : isAggT P t = some false → ∀ c ∈ cs, c.oneCell' = true := fun hg => by
      obtain ⟨c, rfl, hc⟩ := cells_one_of h hg
      simpa using hc
    cases u with
    | struct fs =>
      obtain ⟨xs, m', hm, rfl, hl, hx, hh⟩ := DataW.trod_struct hu h
      cases hm
      simp only [ones, hu, Bool.and_eq_true] at ho
      have := fields_ones (trod_ones m n) cs fs.toList 0 xs (by rw [hl]; exact ho.1) ho.2 (by simpa using hx) (fun i f hf => hh i f (by simpa using hf))
      simpa using this
    | array _ _ => simp [ones, hu] at ho
    | _ => exact one (by simp [isAggT, hu])

theorem fields_good {n : Nat} {V : View} (ih : ∀ (t : TypeId) (cs : List Value) (x : DataW H × List MemPlace), DataW.trod enc P W 0 (fun _ => true) true n t cs = some x → (∀ m ∈ x.1.weights P t, m ≤ reachBytes) → ∃ l, repL (F0 W) V l cs ∧ Good P n t l) (cs : List Value) :
    ∀ (fs : List Field) (off : Nat) (xs : List (DataW H × List MemPlace)), tile P fs off cs.length = true → xs.length = fs.length →
      (∀ (i : Nat) (f : Field), fs[i]? = some f → DataW.trod enc P W 0 (fun _ => true) true n f.type ((cs.drop f.offset).take (P.cellsOf f.type)) = xs[i]?) →
      (∀ m ∈ DataW.weightsEach P (fs.map (·.type)) (xs.map (·.1)), m ≤ reachBytes) → ∃ l, repL (F0 W) V l (cs.drop off) ∧ goodFields (Good P n) fs l
  | [], off, xs, ht, hl, hh, hw => by
    simp only [tile] at ht
    have := Nat.eq_of_beq_eq_true ht
    subst this
    exact ⟨[], by simp [repL], rfl⟩
  | f :: fs, off, xs, ht, hl, hh, hw => by
    cases xs with
    | nil => simp at hl
    | cons x xs =>
    simp only [tile, Bool.and_eq_true] at ht
    have ho := Nat.eq_of_beq_eq_true ht.1
    simp only [List.map_cons, DataW.weightsEach, List.mem_append] at hw
    have h0 := hh 0 f rfl
    rw [ho] at h0
    obtain ⟨a, ha, ga⟩ := ih _ _ x h0 fun m hm => hw m (.inl hm)
    obtain ⟨b, hb, gb⟩ := fields_good ih cs fs (off + P.cellsOf f.type) xs ht.2 (by simpa using hl) (fun i g hg => by simpa using hh (i + 1) g (by simpa using hg)) fun m hm => hw m (.inr hm)
    refine ⟨a ++ b, ?_, a, b, rfl, ga, gb⟩
    have e : cs.drop off = (cs.drop off).take (P.cellsOf f.type) ++ cs.drop (off + P.cellsOf f.type) := by
      rw [← List.drop_drop, List.take_append_drop]
    rw [e]
    exact ha.append hb

theorem weightsAll_mem {e : TypeId} : ∀ {l : List (DataW H)} {d : DataW H}, d ∈ l → ∀ m ∈ d.weights P e, m ∈ DataW.weightsAll P e l
  | d0 :: l, d, hd, m, hm => by
    simp only [DataW.weightsAll, List.mem_append]
    rcases List.mem_cons.1 hd with rfl | hd
    · exact .inl hm
    · exact .inr (weightsAll_mem hd m hm)

theorem trod_good {V : View} : ∀ (n : Nat) (t : TypeId) (cs : List Value) (x : DataW H × List MemPlace), DataW.trod enc P W 0 (fun _ => true) true n t cs = some x → (∀ m ∈ x.1.weights P t, m ≤ reachBytes) →
    ∃ l, repL (F0 W) V l cs ∧ Good P n t l
  | 0, t, cs, x, h, _ => by simp [DataW.trod] at h
  | n + 1, t, cs, x, h, hw => by
    cases hu : P.underlying t with
    | none => exact ⟨_, repL_tops cs, by simp [Good, hu]⟩
    | some u =>
    cases u with
    | int k =>
      obtain ⟨z, rfl, rfl, hz⟩ := DataW.trod_int hu h
      exact ⟨[.int k z], by simp [repL, rep], by simp [Good, hu, hz]⟩
    | bool =>
      obtain ⟨z, rfl, rfl⟩ := DataW.trod_bool hu h
      exact ⟨[.bl z], by simp [repL, rep], by simp [Good, hu]⟩
    | string =>
      obtain ⟨s, rfl, rfl, hs⟩ := DataW.trod_string hu h
      refine ⟨[.str s.data.toList], by simp [repL, rep], ?_⟩
      simp only [Good, hu]
      exact ⟨_, rfl, hw _ (by simp [DataW.weights])⟩
    | struct fs =>
      by_cases ht : tile P fs.toList 0 (P.cellsOf t) = true
      · obtain ⟨xs, m, hm, rfl, hl, hx, hh⟩ := DataW.trod_struct hu h
        cases hm
        simp only [DataW.weights, hu] at hw
        obtain ⟨l, hr, hg⟩ := fields_good (trod_good n) cs fs.toList 0 xs (by rw [hl]; exact ht) (by simpa using hx) (fun i f hf => hh i f (by simpa using hf)) hw
        refine ⟨l, by simpa using hr, ?_⟩
        simp only [Good, hu]
        exact fun _ => hg
      · refine ⟨_, repL_tops cs, ?_⟩
        simp only [Good, hu]
        exact fun h => absurd h ht
    | slice e =>
      cases hk : kindT P e with
      | none =>
        refine ⟨_, repL_tops cs, ?_⟩
        simp only [Good, hu]
        intro k hk'
        rw [hk] at hk'; cases hk'
      | some k =>
      by_cases hon : ones P 8 e = true
      case neg =>
        refine ⟨_, repL_tops cs, ?_⟩
        simp only [Good, hu]
        exact fun k _ h => absurd h hon
      obtain ⟨hsz, hag⟩ := kindT_size hk
      have hce : P.cellsOf e = width k := by
        unfold sizeT at hsz
        unfold Program.cellsOf
        cases hi : P.info? e with
        | none => simp [hi] at hsz
        | some i => simp [hi] at hsz; simp [hsz]
      have hwd : 0 < width k := by unfold width; split <;> omega
      rcases DataW.trod_slice hu h with ⟨rfl, rfl⟩ | ⟨a, len, cap, elems, rest, m, hm, rfl, rfl, -, hlc, -, hlen, hel, hsp, -⟩
      · refine ⟨[.sl .none k []], ?_, ?_⟩
        · simp only [repL, rep]
          exact ⟨_, _, rfl, .inr ⟨trivial, ⟨none, rfl⟩, trivial⟩, rfl⟩
        · simp only [Good, hu]
          intro k' hk' _
          rw [hk] at hk'; cases hk'
          exact ⟨[], rfl, by simp, fun x hx => by cases hx⟩
      · cases hm
        simp only [DataW.weights, hu, List.mem_cons, List.mem_append] at hw
        have hbytes : len * P.bytesOf e ≤ reachBytes := by
          have := hw _ (.inl rfl)
          simp only [List.length_map, hlen] at this
          exact Nat.le_trans (Nat.mul_le_mul_right _ (Nat.le_add_right _ _)) this
        by_cases hc0 : cap = 0
        · obtain rfl : len = 0 := by omega
          subst hc0
          refine ⟨[.sl .none k []], ?_, ?_⟩
          · simp only [repL, rep]
            exact ⟨_, _, rfl, .inr ⟨trivial, ⟨some a, rfl⟩, trivial⟩, rfl⟩
          · simp only [Good, hu]
            intro k' hk' _
            rw [hk] at hk'; cases hk'
            exact ⟨[], rfl, by simp, fun x hx => by cases hx⟩
        · obtain ⟨hr1, hr2⟩ := hsp rfl
          have hspot : a.spot = none := by
            have : ∃ cs', W.cells? 0 a (P.cellsOf e) = some cs' := by
              by_cases hl0 : len = 0
              · have := hr2 0 (by omega)
                subst hl0
                obtain ⟨y, hy⟩ : ∃ y, rest[0]? = some y := ⟨_, List.getElem?_eq_getElem (by omega)⟩
                rw [hy] at this
                simp only [Nat.zero_add, Nat.zero_mul, addr0] at this
                obtain ⟨cs', h1, -⟩ := Option.bind_eq_some_iff.1 this
                exact ⟨cs', h1⟩
              · have := hel 0 (by omega)
                obtain ⟨y, hy⟩ : ∃ y, elems[0]? = some y := ⟨_, List.getElem?_eq_getElem (by omega)⟩
                rw [hy] at this
                simp only [Nat.zero_mul, addr0] at this
                obtain ⟨cs', h1, -⟩ := Option.bind_eq_some_iff.1 this
                exact ⟨cs', h1⟩
            obtain ⟨cs', hcs⟩ := this
            obtain ⟨-, hl', hc'⟩ := World.cells?_some hcs
            have h0 := hc' 0 (by omega)
            rw [addr0] at h0
            obtain ⟨y, hy⟩ : ∃ y, cs'[0]? = some y := ⟨_, List.getElem?_eq_getElem (by omega)⟩
            rw [hy] at h0
            unfold World.cell? at h0
            split at h0
            · split at h0
              · cases h0
              · rename_i hn
                simpa using hn
            · cases h0
          obtain ⟨b, o, sp⟩ := a
          simp only at hspot
          subst hspot
          have key : ∀ m, m ≤ len → ∃ els vs, els.length = m ∧ repL (F0 W) V els vs ∧ (∀ y ∈ vs, elemOk k y) ∧ FixedAt (F0 W) b o (flat vs) ∧ ∀ y ∈ els, ∃ cs, isElem k y cs ∧ Good P n e cs := by
            intro m
            induction m with
            | zero => exact fun _ => ⟨[], [], rfl, by simp [repL], by simp, by intro j y hy; simp [flat] at hy, by simp⟩
            | succ m ihm =>
              intro hm
              obtain ⟨els, vs, hl, hr, he, hf, hg⟩ := ihm (by omega)
              obtain ⟨y, hy⟩ : ∃ y, elems[m]? = some y := ⟨_, List.getElem?_eq_getElem (by omega)⟩
              have hm' := hel m (by omega)
              rw [hy] at hm'
              obtain ⟨cs', h1, h2⟩ := Option.bind_eq_some_iff.1 hm'
              obtain ⟨-, hl', hc'⟩ := World.cells?_some h1
              obtain ⟨l, hlr, hlg⟩ := trod_good (V := V) n e cs' y h2 fun z hz => hw z (.inr (.inl (weightsAll_mem (List.mem_map_of_mem (List.mem_of_getElem? hy)) z hz)))
              have hvl : vs.length = m := by rw [← hr.length]; exact hl
              have fin : ∀ (ae : AV) (v : Value), rep (F0 W) V ae v → elemOk k v → v.cells.toList = cs' → isElem k ae l → ∃ els vs, els.length = m + 1 ∧ repL (F0 W) V els vs ∧ (∀ y ∈ vs, elemOk k y) ∧ FixedAt (F0 W) b o (flat vs) ∧ ∀ y ∈ els, ∃ cs, isElem k y cs ∧ Good P n e cs := by
                intro ae v hrep hek hcs hie
                refine ⟨els ++ [ae], vs ++ [v], by simp [hl], hr.append (by simp only [repL]; exact ⟨v, [], rfl, hrep, rfl⟩), ?_, ?_, ?_⟩
                · intro y hy
                  rcases List.mem_append.1 hy with hy | hy
                  · exact he y hy
                  · rw [List.mem_singleton] at hy; subst hy; exact hek
                · rw [flat_append]
                  refine fixedAt_append hf ?_
                  rw [flat_length he, hvl]
                  intro j z hz
                  simp only [flat, List.flatMap_cons, List.flatMap_nil, List.append_nil, hcs] at hz
                  have hj : j < cs'.length := by
                    rcases Nat.lt_or_ge j cs'.length with h' | h'
                    · exact h'
                    · simp [List.getElem?_eq_none h'] at hz
                  have := hc' j (by omega)
                  rw [hz, hce, Addr.add_lit, Addr.add_lit] at this
                  exact this
                · intro y hy
                  rcases List.mem_append.1 hy with hy | hy
                  · exact hg y hy
                  · rw [List.mem_singleton] at hy; subst hy; exact ⟨l, hie, hlg⟩
              by_cases hk0 : k = 0
              · subst hk0
                obtain ⟨c, rfl, hone⟩ := cells_one_of h2 (by simpa using hag)
                cases l with
                | nil => simp [repL] at hlr
                | cons ae l =>
                simp only [repL] at hlr
                obtain ⟨z, r, hzr, hz, hnil⟩ := hlr
                cases hzr
                cases l with
                | cons _ _ => simp [repL] at hnil
                | nil =>
                exact fin ae c hz (by simp [elemOk, hone]) (by rw [cells_one hone]) (by simp [isElem])
              · have hones : ∀ c ∈ cs', c.oneCell' = true := trod_ones 8 n e cs' y h2 hon
                refine fin (.agg l) (.agg cs'.toArray) ?_ ?_ (by simp [Value.cells]) (by simp [isElem, hk0])
                · simp only [rep]
                  exact ⟨cs', rfl, hlr, hones⟩
                · simp only [elemOk, hk0, if_false]
                  exact ⟨_, rfl, by simp only [List.size_toArray]; rw [hl', hce]; simp [width, hk0], by simpa using hones⟩
          obtain ⟨els, vs, hl, hr, he, hf, hg⟩ := key len (Nat.le_refl _)
          refine ⟨[.sl .none k els], ?_, ?_⟩
          · simp only [repL, rep]
            refine ⟨_, _, rfl, .inl ⟨b, o, cap, vs, ?_, hr, he, hf, ?_⟩, rfl⟩
            · rw [← hr.length, hl]
            · simp only [permOk]
              rw [← hr.length, hl]; exact hlc
          · simp only [Good, hu]
            intro k' hk' _
            rw [hk] at hk'; cases hk'
            exact ⟨els, rfl, by rw [hl]; exact hbytes, hg⟩
    | _ => exact ⟨_, repL_tops cs, by simp [Good, hu]⟩

theorem Good.int {n : Nat} {t : TypeId} {l : List AV} {k : IntKind} (hu : P.underlying t = some (.int k)) (g : Good P n t l) : ∃ x, l = [.int k x] ∧ (Lit.int k x).wf = true := by
  cases n with
  | zero => exact g.elim
  | succ n => simpa only [Good, hu] using g
theorem Good.bool {n : Nat} {t : TypeId} {l : List AV} (hu : P.underlying t = some .bool) (g : Good P n t l) : ∃ b, l = [.bl b] := by
  cases n with
  | zero => exact g.elim
  | succ n => simpa only [Good, hu] using g
theorem Good.str {n : Nat} {t : TypeId} {l : List AV} (hu : P.underlying t = some .string) (g : Good P n t l) : ∃ s, l = [.str s] ∧ s.length ≤ reachBytes := by
  cases n with
  | zero => exact g.elim
  | succ n => simpa only [Good, hu] using g
theorem Good.slice {n : Nat} {t e : TypeId} {l : List AV} {k : Nat} (hu : P.underlying t = some (.slice e)) (hk : kindT P e = some k) (ho : ones P 8 e = true) (g : Good P n t l) :
    ∃ els, l = [.sl .none k els] ∧ els.length * P.bytesOf e ≤ reachBytes ∧ ∀ x ∈ els, ∃ m cs, isElem k x cs ∧ Good P m e cs := by
  cases n with
  | zero => exact g.elim
  | succ n =>
    simp only [Good, hu] at g
    obtain ⟨els, h1, h2, h3⟩ := g k hk ho
    exact ⟨els, h1, h2, fun x hx => ⟨n, h3 x hx⟩⟩
theorem Good.struct {n : Nat} {t : TypeId} {l : List AV} {fs : Array Field} (hu : P.underlying t = some (.struct fs)) (ho : tile P fs.toList 0 (P.cellsOf t) = true) (g : Good P n t l) : ∃ m, goodFields (Good P m) fs.toList l := by
  cases n with
  | zero => exact g.elim
  | succ n =>
    simp only [Good, hu] at g
    exact ⟨n, g ho⟩

/-- An argument of a row, of a type of one cell or a struct. -/
theorem arg_good {V : View} {t : TypeId} {v : Value} {d : DataW H} {ps : List MemPlace} (h : DataW.Trod enc P W 0 (fun _ => true) true t v d ps) (hw : ∀ m ∈ d.weights P t, m ≤ reachBytes) : ∃ n l, repL (F0 W) V l v.cells.toList ∧ Good P n t l := by
  obtain ⟨n, h⟩ := h
  obtain ⟨l, h1, h2⟩ := trod_good (V := V) n t _ _ h hw
  exact ⟨n, l, h1, h2⟩

theorem arg_one {V : View} {v : Value} {a : AV} (ho : v.oneCell' = true) (h : repL (F0 W) V [a] v.cells.toList) : rep (F0 W) V a v := by
  rw [cells_one ho] at h
  simp only [repL] at h
  obtain ⟨x, r, e, hx, -⟩ := h
  cases e
  exact hx

theorem arg_agg {V : View} {cs : Array Value} {l : List AV} (ho : ∀ c ∈ cs.toList, c.oneCell' = true) (h : repL (F0 W) V l (Value.agg cs).cells.toList) : rep (F0 W) V (.agg l) (.agg cs) := by
  simp only [rep]
  exact ⟨cs.toList, rfl, h, ho⟩

theorem weights_of {ts : List TypeId} {ds : List (DataW H)} (h : (DataW.weightsEach P ts ds).all (· ≤ reachBytes) = true) {j : Nat} {t : TypeId} {d : DataW H} (ht : ts[j]? = some t) (hd : ds[j]? = some d) : ∀ m ∈ d.weights P t, m ≤ reachBytes := fun m hm => by
  have := List.all_eq_true.1 h _ (DataW.weights_mem_each ht hd m hm)
  simpa using this

open Go.RowKit in
/-- From a law's contract to what its row asks of the call. -/
theorem law_calls {f : FuncId} {args : List AV} {vs : List Value} (c : CallOK P f args [] 0 (fun a h m => a = .bool true ∨ a = .bl true)) (hr : repL (F0 W) V0 args vs) :
    Calls P f vs.toArray W fun e w' => e = .returned (.bool true) ∧ Below W.heap.size W w' := by
  refine (c.2 (F0 W) V0 W vs ⟨fun b o x h => h, fun id o hg => by simp [get] at hg, fun id o b off hg => by simp [get] at hg, fun id id' o o' b hg => by simp [get] at hg⟩ (fun id _ => ⟨rfl, rfl⟩) hr).mono ?_
  rintro e w' ⟨v, F', V', a, h', nx', rfl, hs, -, -, hrep, hk⟩
  refine ⟨?_, hs.os, hs.tape, hs.output, hs.size, fun k hk => hs.touch k hk ?_⟩
  · rcases hk with rfl | rfl <;> simp only [rep] at hrep <;> rw [hrep]
  · rintro ⟨id, o, hg, -⟩
    simp [get] at hg

end
end Go.Sym

namespace Go.Sym

section
variable {P : Program} {Q : AExit → St → Prop} {K : AV → Heap → Nat → Prop}

/-- No name is borne. -/
def Cl (a : AV) : Prop := ∀ ρ, ren ρ a = a
def ClL (l : List AV) : Prop := ∀ ρ, renL ρ l = l
def ClO (o : AObj) : Prop := ∀ ρ, renO ρ o = o

theorem ClL.nil : ClL [] := fun _ => rfl
theorem ClL.cons {a : AV} {l : List AV} (h : Cl a) (k : ClL l) : ClL (a :: l) := fun ρ => by simp only [renL, h ρ, k ρ]
theorem ClL.u8s (l : List UInt8) : ClL (u8s l) := fun ρ => renL_u8s ρ l
theorem ClL.map {α : Type} {f : α → AV} (h : ∀ x, Cl (f x)) (l : List α) : ClL (l.map f) := fun ρ => by
  induction l with
  | nil => rfl
  | cons x l ih => simp only [List.map_cons, renL, h x ρ, ih]
theorem Cl.int (k : IntKind) (n : Int) : Cl (.int k n) := fun _ => rfl
theorem Cl.bool (b : Bool) : Cl (.bool b) := fun _ => rfl
theorem Cl.bl (b : Bool) : Cl (.bl b) := fun _ => rfl
theorem Cl.str (s : List UInt8) : Cl (.str s) := fun _ => rfl
theorem Cl.nilp : Cl .nilp := fun _ => rfl
theorem Cl.nils : Cl .nils := fun _ => rfl
theorem Cl.nili : Cl .nili := fun _ => rfl
theorem Cl.top : Cl .top := fun _ => rfl
theorem Cl.sl {k : Nat} {l : List AV} (h : ClL l) : Cl (.sl .none k l) := fun ρ => by simp only [ren, h ρ, renP]
theorem Cl.bs (l : List UInt8) : Cl (.sl .none 0 (u8s l)) := Cl.sl (ClL.u8s l)
theorem Cl.slFull {k : Nat} {l : List AV} (h : ClL l) : Cl (.sl .full k l) := fun ρ => by simp only [ren, h ρ, renP]
theorem Cl.agg {l : List AV} (h : ClL l) : Cl (.agg l) := fun ρ => by simp only [ren, h ρ]
theorem Cl.tup {l : List AV} (h : ClL l) : Cl (.tup l) := fun ρ => by simp only [ren, h ρ]
theorem ClO.cells {l : List AV} (h : ClL l) : ClO (.cells l) := fun ρ => by simp only [renO, h ρ]

/-- Each object of that name turned. -/
def updA : Heap → Nat → AObj → Heap
  | [], _, _ => []
  | (j, x) :: r, i, o => bif Nat.beq i j then (j, o) :: updA r i o else (j, x) :: updA r i o

theorem keepH_one {nx i : Nat} {o1 : AObj} (hc : ClO o1) : ∀ h : Heap, keepH nx [i] [(0, o1)] h = updA h i o1
  | [] => rfl
  | (j, x) :: r => by
    unfold keepH updA idx
    cases Nat.beq i j with
    | true =>
      simp only [cond_true, get, Nat.beq_refl]
      rw [hc, keepH_one hc r]
    | false =>
      simp only [cond_false, idx]
      rw [keepH_one hc r]

theorem keepH_zero {nx : Nat} : ∀ h : Heap, keepH nx [] [] h = h
  | [] => rfl
  | (j, x) :: r => by
    unfold keepH idx
    simp only
    rw [keepH_zero r]

/-- A call, by a contract without objects. -/
theorem call0 {f : FuncId} {args : List AV} {h : Heap} {nx : Nat} {k : AV → Heap → Nat → R} {a1 : AV} (c : CallOK P f args [] 0 (Out a1 [] 0)) (hargs : ClL args) (ha : Cl a1) (hk : holds P Q K (k a1 h nx)) : holds P Q K (.call f args h nx k) :=
  CallOK.frame (names := []) c rfl trivial (hargs _).symm fun a0 h0' m' ⟨e1, e2, e3⟩ => by
    subst e1; subst e2; subst e3
    rw [ha]
    have : mergeH nx [] h [] = h := keepH_zero h
    rw [this]
    exact hk

/-- A call, by a contract of one object that bears no names. -/
theorem call1 {f : FuncId} {args args0 : List AV} {h : Heap} {nx : Nat} {k : AV → Heap → Nat → R} {a1 : AV} {o0 o1 : AObj} (i : Nat) (c : CallOK P f args0 [(0, o0)] 1 (Out a1 [(0, o1)] 1)) (hi : Nat.blt i nx = true) (hg : get h i = some o0)
    (h0 : ClO o0) (h1 : ClO o1) (hargs : args = renL (rho nx [i]) args0) (ha : Cl a1) (hk : holds P Q K (k a1 (updA h i o1) nx)) : holds P Q K (.call f args h nx k) :=
  CallOK.frame (names := [i]) c (by simp [okNames, hi, memN]) ⟨⟨by simp, by rw [h0]; exact hg⟩, trivial⟩ hargs fun a0 h0' m' ⟨e1, e2, e3⟩ => by
    subst e1; subst e2; subst e3
    rw [ha]
    have : mergeH nx [i] h [(0, o1)] = updA h i o1 := by
      show newH nx [i] (keepH nx [i] [(0, o1)] h) [(0, o1)] = _
      rw [keepH_one h1]
      rfl
    rw [this]
    exact hk

end
end Go.Sym
