/-
  Maps as lists: text to number. (From chapter 18's texts.)
-/
import Derived.Test.YtlcanameloklbaaTxt1
import Derived.Shelf.Sort.Plain
import Derived.Shelf.Slices.In.SortNone
import Derived.Shelf.SlMaps.Clone
set_option linter.unusedVariables false
set_option linter.unusedSimpArgs false
namespace Go.Proofs.Ytlcanameloklbaa.Tp
set_option maxRecDepth 100000
set_option maxHeartbeats 80000000
open Go.Sym

section
variable {K : Type} [DecidableEq K]
def findM : List (K × Int) → K → Option Int
  | [], _ => none
  | (a, v) :: r, k => if k = a then some v else findM r k
def setM : List (K × Int) → K → Int → List (K × Int)
  | [], k, v => [(k, v)]
  | (a, x) :: r, k, v => if k = a then (a, v) :: r else (a, x) :: setM r k v
def delM : List (K × Int) → K → List (K × Int)
  | [], _ => []
  | (a, x) :: r, k => if k = a then r else (a, x) :: delM r k

/-- No key stands twice. -/
def OnceM : List (K × Int) → Prop
  | [] => True
  | (a, _) :: r => findM r a = none ∧ OnceM r

theorem find_set (k k' : K) (v : Int) : ∀ m : List (K × Int), findM (setM m k v) k' = if k' = k then some v else findM m k'
  | [] => by simp only [setM, findM]
  | (a, x) :: r => by
    simp only [setM]
    by_cases h : k = a
    · rw [if_pos h]
      subst h
      simp only [findM]
      by_cases h2 : k' = k
      · rw [if_pos h2, if_pos h2]
      · rw [if_neg h2, if_neg h2, if_neg h2]
    · rw [if_neg h]
      simp only [findM]
      by_cases h2 : k' = a
      · rw [if_pos h2, if_neg (fun e => h (by rw [← e, h2])), if_pos h2]
      · rw [if_neg h2, find_set k k' v r, if_neg h2]
theorem once_set (k : K) (v : Int) : ∀ {m : List (K × Int)}, OnceM m → OnceM (setM m k v)
  | [], _ => ⟨rfl, trivial⟩
  | (a, x) :: r, ⟨h1, h2⟩ => by
    simp only [setM]
    by_cases h : k = a
    · rw [if_pos h]; exact ⟨h1, h2⟩
    · rw [if_neg h]
      exact ⟨by rw [find_set, if_neg (fun e => h e.symm)]; exact h1, once_set k v h2⟩
theorem find_del (k k' : K) : ∀ {m : List (K × Int)}, OnceM m → findM (delM m k) k' = if k' = k then none else findM m k'
  | [], _ => by simp only [delM, findM, ite_self]
  | (a, x) :: r, ⟨h1, h2⟩ => by
    simp only [delM]
    by_cases h : k = a
    · rw [if_pos h]
      subst h
      simp only [findM]
      by_cases h3 : k' = k
      · rw [if_pos h3, h3]; exact h1
      · rw [if_neg h3, if_neg h3]
    · rw [if_neg h]
      simp only [findM]
      by_cases h3 : k' = a
      · rw [if_pos h3, if_neg (fun e => h (by rw [← e, h3])), if_pos h3]
      · rw [if_neg h3, find_del k k' h2, if_neg h3]
end

def fE (m : List (List UInt8 × Int)) : List (AV × AV) := m.map fun x => (.str x.1, .int .i64 x.2)

theorem keyEq_str (a b : List UInt8) : keyEq (.str a) (.str b) = decide (a = b) := by
  show (a == b) = _
  rw [Bool.eq_iff_iff]
  simp

theorem find_fE (k : List UInt8) : ∀ m : List (List UInt8 × Int), findE (fE m) (.str k) = (findM m k).map (.int .i64)
  | [] => rfl
  | (a, v) :: r => by
    have ih := find_fE k r
    simp only [fE, List.map_cons, findE, findM, keyEq_str] at ih ⊢
    by_cases h : k = a
    · simp [h]
    · simp [h, ih]
theorem set_fE (k : List UInt8) (v : Int) : ∀ m : List (List UInt8 × Int), setE (fE m) (.str k) (.int .i64 v) = fE (setM m k v)
  | [] => rfl
  | (a, x) :: r => by
    have ih := set_fE k v r
    simp only [fE, List.map_cons, setE, setM, keyEq_str] at ih ⊢
    by_cases h : k = a
    · simp [h]
    · simp [h, ih]
theorem del_fE (k : List UInt8) : ∀ m : List (List UInt8 × Int), delE (fE m) (.str k) = fE (delM m k)
  | [] => rfl
  | (a, x) :: r => by
    have ih := del_fE k r
    simp only [fE, List.map_cons, delE, delM, keyEq_str] at ih ⊢
    by_cases h : k = a
    · simp [h]
    · simp [h, ih]
theorem bl_irr : ∀ a : List UInt8, Op.bytesLess a a = false
  | [] => rfl
  | x :: a => by simp [Op.bytesLess, bl_irr a]
theorem bl_trans : ∀ {a b c : List UInt8}, Op.bytesLess a b = true → Op.bytesLess b c = true → Op.bytesLess a c = true
  | [], [], _, h, _ => by simp [Op.bytesLess] at h
  | [], _ :: _, [], _, h => by simp [Op.bytesLess] at h
  | [], _ :: _, _ :: _, _, _ => by simp [Op.bytesLess]
  | _ :: _, [], _, h, _ => by simp [Op.bytesLess] at h
  | _ :: _, _ :: _, [], _, h => by simp [Op.bytesLess] at h
  | x :: a, y :: b, z :: c, h1, h2 => by
    simp only [Op.bytesLess, Bool.or_eq_true, decide_eq_true_eq, Bool.and_eq_true, beq_iff_eq] at h1 h2 ⊢
    rcases h1 with h1 | ⟨rfl, h1⟩
    · rcases h2 with h2 | ⟨rfl, h2⟩
      · exact .inl (UInt8.lt_trans h1 h2)
      · exact .inl h1
    · rcases h2 with h2 | ⟨rfl, h2⟩
      · exact .inl h2
      · exact .inr ⟨rfl, bl_trans h1 h2⟩
theorem bl_tot : ∀ {a b : List UInt8}, a ≠ b → Op.bytesLess a b = true ∨ Op.bytesLess b a = true
  | [], [], h => absurd rfl h
  | [], _ :: _, _ => by simp [Op.bytesLess]
  | _ :: _, [], _ => by simp [Op.bytesLess]
  | x :: a, y :: b, h => by
    simp only [Op.bytesLess, Bool.or_eq_true, decide_eq_true_eq, Bool.and_eq_true, beq_iff_eq]
    by_cases e : x = y
    · subst e
      rcases bl_tot (a := a) (b := b) (fun e => h (by rw [e])) with k | k
      · exact .inl (.inr ⟨rfl, k⟩)
      · exact .inr (.inr ⟨rfl, k⟩)
    · rcases UInt8.lt_or_lt_of_ne e with k | k
      · exact .inl (.inl k)
      · exact .inr (.inl k)
theorem once_del {K : Type} [DecidableEq K] (k : K) : ∀ {m : List (K × Int)}, OnceM m → OnceM (delM m k)
  | [], _ => trivial
  | (a, x) :: r, ⟨h1, h2⟩ => by
    simp only [delM]
    by_cases h : k = a
    · rw [if_pos h]; exact h2
    · rw [if_neg h]
      exact ⟨by rw [find_del k a h2, if_neg (fun e => h e.symm)]; exact h1, once_del k h2⟩
theorem find_mem {K : Type} [DecidableEq K] {k : K} : ∀ {m : List (K × Int)}, findM m k ≠ none ↔ k ∈ m.map (·.1)
  | [] => by simp [findM]
  | (a, x) :: r => by
    simp only [findM, List.map_cons, List.mem_cons]
    by_cases h : k = a
    · simp [h]
    · rw [if_neg h, find_mem]; simp [h]
theorem nodup_len {α : Type} [DecidableEq α] : ∀ {l m : List α}, l.Nodup → (∀ x ∈ l, x ∈ m) → l.length ≤ m.length
  | [], _, _, _ => Nat.zero_le _
  | a :: l, m, h, hs => by
    rw [List.nodup_cons] at h
    have ha := hs a List.mem_cons_self
    have ih := nodup_len (m := m.erase a) h.2 fun x hx => (List.mem_erase_of_ne (fun e => h.1 (by rw [← e]; exact hx))).2 (hs x (List.mem_cons_of_mem _ hx))
    rw [List.length_erase_of_mem ha] at ih
    have := List.length_pos_of_mem ha
    simp only [List.length_cons]
    omega
theorem ren_fE (ρ : Nat → Nat) : ∀ m : List (List UInt8 × Int), renE ρ (fE m) = fE m
  | [] => rfl
  | x :: m => by
    show (ren ρ (.str x.1), ren ρ (.int .i64 x.2)) :: renE ρ (Tp.fE m) = (.str x.1, .int .i64 x.2) :: Tp.fE m
    rw [ren_fE ρ m]
    simp only [ren]
theorem ClO.fE (m : List (List UInt8 × Int)) : ClO (.map (fE m)) := fun ρ => by
  simp only [renO, ren_fE]

theorem askF (m : List (List UInt8 × Int)) (k : List UInt8) : mapAsk Try.prog 9 (fE m) (.str k) :=
  ⟨⟨by decide +kernel, by decide +kernel⟩, rfl, fun e he => by
    obtain ⟨x, -, rfl⟩ := List.mem_map.1 he
    rfl⟩
theorem look_fE (m : List (List UInt8 × Int)) (k : List UInt8) : lookV (fE m) (.str k) (.int .i64 0) false = .int .i64 ((findM m k).getD 0) := by
  unfold lookV
  rw [find_fE]
  cases findM m k <;> rfl

theorem fE_get {m : List (List UInt8 × Int)} {i : Nat} {kv : AV × AV} (h : (fE m)[i]? = some kv) : ∃ x, m[i]? = some x ∧ kv = (.str x.1, .int .i64 x.2) := by
  simp only [fE, List.getElem?_map] at h
  obtain ⟨x, hx, e⟩ := Option.map_eq_some_iff.1 h
  exact ⟨x, hx, e.symm⟩
theorem ClO.fN (m : List (List UInt8 × Int)) (bs : List Nat) (c : Nat) : ClO (.mapN (Tp.fE m) bs c) := fun ρ => by simp only [renO, ren_fE]

theorem rng_ok {bs : List Nat} {es : List (AV × AV)} {c : Nat} (h1 : bs.length = es.length) (h2 : ∀ n ∈ bs, n < c) : es = [] ∨ ∃ n ∈ bs, n < c := by
  cases bs with
  | nil => exact .inl (List.eq_nil_of_length_eq_zero h1.symm)
  | cons n r => exact .inr ⟨n, List.mem_cons_self, h2 n List.mem_cons_self⟩

theorem pair_inj {bs : List Nat} (h : bs.Pairwise (· < ·)) {i j n : Nat} (hi : bs[i]? = some n) (hj : bs[j]? = some n) : i = j := by
  rw [List.pairwise_iff_getElem] at h
  obtain ⟨hi1, hi2⟩ := List.getElem?_eq_some_iff.1 hi
  obtain ⟨hj1, hj2⟩ := List.getElem?_eq_some_iff.1 hj
  rcases Nat.lt_trichotomy i j with q | q | q
  · have := h i j hi1 hj1 q; omega
  · exact q
  · have := h j i hj1 hi1 q; omega
theorem look_fE2 (m : List (List UInt8 × Int)) (k : List UInt8) : lookV (fE m) (.str k) (.int .i64 0) true = .tup [.int .i64 ((findM m k).getD 0), .bool (findM m k).isSome] := by
  unfold lookV
  rw [find_fE]
  cases findM m k <;> rfl
theorem nodup_len' {l : List Nat} {n : Nat} (h : l.Nodup) (hl : ∀ i ∈ l, i < n) : l.length ≤ n := by
  have := nodup_len h (m := List.range n) fun i hi => List.mem_range.2 (hl i hi)
  simpa using this
theorem range_map {α β : Type} (g : α → β) : ∀ m : List α, (List.range m.length).filterMap (fun i => (m[i]?).map g) = m.map g
  | [] => rfl
  | x :: m => by
    rw [List.length_cons, List.range_succ_eq_map, List.filterMap_cons, List.filterMap_map]
    simp only [List.getElem?_cons_zero, Option.map_some, List.map_cons]
    congr 1
    rw [← range_map g m]
    congr 1
theorem Le.nilsZero {h : Heap} {k : Nat} : Le h .nils (.sl .zero k []) := fun F V w x i r => by
  simp only [rep] at r ⊢
  exact .inr ⟨trivial, ⟨_, r⟩, trivial⟩
end Go.Proofs.Ytlcanameloklbaa.Tp

namespace Go.Proofs.Ytlcanameloklbaa.Tp
set_option maxRecDepth 100000
set_option maxHeartbeats 80000000
open Go.Sym

abbrev Rw := List UInt8 × Int
def SrtR (l : List Rw) : Prop := l.Pairwise fun a b => Op.bytesLess a.1 b.1 = true
/-- The place of a name. -/
def belowR (k : List UInt8) : List Rw → Nat
  | [] => 0
  | x :: l => if Op.bytesLess x.1 k = true then belowR k l + 1 else 0
def insR (k : List UInt8) (v : Int) : List Rw → List Rw
  | [] => [(k, v)]
  | x :: l => if Op.bytesLess x.1 k = true then x :: insR k v l else (k, v) :: x :: l
def remR (k : List UInt8) : List Rw → List Rw
  | [] => []
  | x :: l => if Op.bytesLess x.1 k = true then x :: remR k l else l
theorem bl_asym {a b : List UInt8} (h : Op.bytesLess a b = true) : Op.bytesLess b a = false := by
  rw [Bool.eq_false_iff]; intro k; have := bl_trans h k; rw [bl_irr] at this; cases this
theorem bl_ne {a b : List UInt8} (h : Op.bytesLess a b = true) : a ≠ b := by rintro rfl; rw [bl_irr] at h; cases h
theorem below_le (k : List UInt8) : ∀ l : List Rw, belowR k l ≤ l.length
  | [] => Nat.le_refl _
  | x :: l => by
    unfold belowR
    split
    · have := below_le k l; simp only [List.length_cons]; omega
    · omega
theorem find_none_of {k : List UInt8} : ∀ {l : List Rw}, (∀ x ∈ l, Op.bytesLess k x.1 = true) → findM l k = none
  | [], _ => rfl
  | (a, v) :: l, h => by
    simp only [findM]
    rw [if_neg (bl_ne (h _ List.mem_cons_self))]
    exact find_none_of fun x hx => h x (List.mem_cons_of_mem _ hx)
/-- Where a name is that is there. -/
theorem find_at {k : List UInt8} {v : Int} : ∀ {l : List Rw}, SrtR l → (findM l k = some v ↔ l[belowR k l]? = some (k, v))
  | [], _ => by simp [findM, belowR]
  | (a, x) :: l, hs => by
    obtain ⟨h1, h2⟩ := List.pairwise_cons.1 hs
    unfold belowR
    simp only [findM]
    by_cases h : Op.bytesLess a k = true
    · rw [if_pos h, if_neg (fun e => by subst e; rw [bl_irr] at h; cases h), List.getElem?_cons_succ]
      exact find_at h2
    · rw [if_neg h]
      by_cases e : k = a
      · subst e; rw [if_pos rfl]; simp
      · rw [if_neg e]
        have hk : Op.bytesLess k a = true := by
          rcases bl_tot e with q | q
          · exact q
          · exact absurd q h
        rw [find_none_of fun y hy => bl_trans hk (h1 y hy)]
        simp only [List.getElem?_cons_zero, Option.some.injEq, Prod.mk.injEq]
        constructor
        · intro h'; cases h'
        · rintro ⟨e', -⟩; exact absurd e'.symm e
theorem find_no {k : List UInt8} {l : List Rw} (hs : SrtR l) (h : findM l k = none) {x : Rw} (hx : l[belowR k l]? = some x) : x.1 ≠ k := fun e => by
  subst e
  have := (find_at (k := x.1) (v := x.2) hs).2 hx
  rw [h] at this; cases this
theorem below_lt {k : List UInt8} : ∀ {l : List Rw} {i : Nat} {x : Rw}, SrtR l → l[i]? = some x → (Op.bytesLess x.1 k = true ↔ i < belowR k l)
  | [], i, x, _, h => by simp at h
  | y :: l, i, x, hs, h => by
    obtain ⟨h1, h2⟩ := List.pairwise_cons.1 hs
    unfold belowR
    by_cases q : Op.bytesLess y.1 k = true
    · rw [if_pos q]
      cases i with
      | zero => simp at h; subst h; simp [q]
      | succ i =>
        rw [List.getElem?_cons_succ] at h
        rw [below_lt h2 h]; omega
    · rw [if_neg q]
      cases i with
      | zero => simp at h; subst h; simp [q]
      | succ i =>
        rw [List.getElem?_cons_succ] at h
        have := h1 x (List.mem_of_getElem? h)
        constructor
        · intro h'; exact absurd (bl_trans this h') q
        · intro h'; omega
theorem ins_eq (k : List UInt8) (v : Int) : ∀ l : List Rw, insR k v l = l.take (belowR k l) ++ [(k, v)] ++ l.drop (belowR k l)
  | [] => rfl
  | x :: l => by
    unfold insR belowR
    split
    · rw [ins_eq k v l]; simp
    · simp
theorem rem_eq (k : List UInt8) : ∀ l : List Rw, remR k l = l.take (belowR k l) ++ l.drop (belowR k l + 1)
  | [] => rfl
  | x :: l => by
    unfold remR belowR
    split
    · rw [rem_eq k l]; simp
    · simp
theorem ins_mem {k : List UInt8} {v : Int} {x : Rw} : ∀ {l : List Rw}, x ∈ insR k v l → x = (k, v) ∨ x ∈ l
  | [], h => by simp [insR] at h; exact .inl h
  | y :: l, h => by
    unfold insR at h
    split at h
    · rcases List.mem_cons.1 h with h | h
      · exact .inr (h ▸ List.mem_cons_self)
      · rcases ins_mem h with h | h
        · exact .inl h
        · exact .inr (List.mem_cons_of_mem _ h)
    · rcases List.mem_cons.1 h with h | h
      · exact .inl h
      · exact .inr h
theorem rem_mem {k : List UInt8} {x : Rw} : ∀ {l : List Rw}, x ∈ remR k l → x ∈ l
  | [], h => by simp [remR] at h
  | y :: l, h => by
    unfold remR at h
    split at h
    · rcases List.mem_cons.1 h with h | h
      · exact h ▸ List.mem_cons_self
      · exact List.mem_cons_of_mem _ (rem_mem h)
    · exact List.mem_cons_of_mem _ h
theorem srt_ins {k : List UInt8} {v : Int} : ∀ {l : List Rw}, SrtR l → findM l k = none → SrtR (insR k v l)
  | [], _, _ => List.pairwise_singleton _ _
  | (a, x) :: l, hs, hn => by
    obtain ⟨h1, h2⟩ := List.pairwise_cons.1 hs
    simp only [findM] at hn
    have hne : k ≠ a := fun e => by rw [if_pos e] at hn; cases hn
    rw [if_neg hne] at hn
    unfold insR
    by_cases h : Op.bytesLess a k = true
    · rw [if_pos h]
      refine List.pairwise_cons.2 ⟨fun y hy => ?_, srt_ins h2 hn⟩
      rcases ins_mem hy with rfl | hy
      · exact h
      · exact h1 y hy
    · rw [if_neg h]
      have hk : Op.bytesLess k a = true := by
        rcases bl_tot hne with q | q
        · exact q
        · exact absurd q h
      refine List.pairwise_cons.2 ⟨fun y hy => ?_, hs⟩
      rcases List.mem_cons.1 hy with rfl | hy
      · exact hk
      · exact bl_trans hk (h1 y hy)
theorem find_ins {k k' : List UInt8} {v : Int} : ∀ {l : List Rw}, findM (insR k v l) k' = (if k' = k then some v else findM l k') ∨ (k' = k ∧ findM l k ≠ none)
  | [] => .inl (by simp [insR, findM])
  | (a, x) :: l => by
    unfold insR
    by_cases h : Op.bytesLess a k = true
    · rw [if_pos h]
      have hne : k ≠ a := fun e => by subst e; rw [bl_irr] at h; cases h
      simp only [findM]
      by_cases e : k' = a
      · rw [if_pos e, if_neg (fun e' => hne (e'.symm.trans e)), if_pos e]; exact .inl rfl
      · rw [if_neg e, if_neg e]
        rcases find_ins (k := k) (k' := k') (v := v) (l := l) with q | q
        · exact .inl q
        · exact .inr ⟨q.1, by rw [if_neg hne]; exact q.2⟩
    · rw [if_neg h]
      exact .inl rfl
theorem srt_rem {k : List UInt8} : ∀ {l : List Rw}, SrtR l → SrtR (remR k l)
  | [], _ => List.Pairwise.nil
  | x :: l, hs => by
    obtain ⟨h1, h2⟩ := List.pairwise_cons.1 hs
    unfold remR
    split
    · exact List.pairwise_cons.2 ⟨fun y hy => h1 y (rem_mem hy), srt_rem h2⟩
    · exact h2
theorem find_rem {k k' : List UInt8} : ∀ {l : List Rw}, SrtR l → findM l k ≠ none → findM (remR k l) k' = if k' = k then none else findM l k'
  | [], _, h => absurd rfl h
  | (a, x) :: l, hs, h => by
    obtain ⟨h1, h2⟩ := List.pairwise_cons.1 hs
    unfold remR
    by_cases q : Op.bytesLess a k = true
    · rw [if_pos q]
      have hne : k ≠ a := fun e => by subst e; rw [bl_irr] at q; cases q
      simp only [findM] at h ⊢
      rw [if_neg hne] at h
      by_cases e : k' = a
      · rw [if_pos e, if_neg (fun e' => hne (e'.symm.trans e)), if_pos e]
      · rw [if_neg e, if_neg e, find_rem h2 h]
    · rw [if_neg q]
      simp only [findM] at h ⊢
      by_cases e : k = a
      · subst e
        by_cases e' : k' = k
        · rw [if_pos e', e']
          exact find_none_of fun y hy => h1 y hy
        · rw [if_neg e', if_neg e']
      · rw [if_neg e] at h
        have hk : Op.bytesLess k a = true := by
          rcases bl_tot e with q' | q'
          · exact q'
          · exact absurd q' q
        exact absurd (find_none_of fun y hy => bl_trans hk (h1 y hy)) h

/-- Rows, and a map of them. -/
structure RelT (l : List Rw) (m : List Rw) : Prop where
  srt : SrtR l
  once : OnceM m
  look : ∀ k, findM m k = findM l k
theorem RelT.nil : RelT [] [] := ⟨List.Pairwise.nil, trivial, fun _ => rfl⟩
theorem RelT.ins {l m : List Rw} (r : RelT l m) {k : List UInt8} (v : Int) (h : findM l k = none) : RelT (insR k v l) (setM m k v) :=
  ⟨srt_ins r.srt h, once_set _ _ r.once, fun k' => by
    rw [find_set, r.look]
    rcases find_ins (k := k) (k' := k') (v := v) (l := l) with q | q
    · exact q.symm
    · exact absurd h q.2⟩
theorem RelT.rem {l m : List Rw} (r : RelT l m) {k : List UInt8} (h : findM l k ≠ none) : RelT (remR k l) (delM m k) :=
  ⟨srt_rem r.srt, once_del _ r.once, fun k' => by rw [find_del k k' r.once, find_rem r.srt h, r.look]⟩
theorem srt_once : ∀ {l : List Rw}, SrtR l → OnceM l
  | [], _ => trivial
  | (a, x) :: l, hs => by
    obtain ⟨h1, h2⟩ := List.pairwise_cons.1 hs
    exact ⟨find_none_of fun y hy => h1 y hy, srt_once h2⟩
theorem once_nodup : ∀ {m : List Rw}, OnceM m → (m.map (·.1)).Nodup
  | [], _ => List.nodup_nil
  | (a, x) :: r, ⟨h1, h2⟩ => by
    rw [List.map_cons, List.nodup_cons]
    exact ⟨fun h => find_mem.2 h h1, once_nodup h2⟩
theorem RelT.perm {l m : List Rw} (r : RelT l m) : (l.map (·.1)).Perm (m.map (·.1)) :=
  (List.perm_ext_iff_of_nodup (once_nodup (srt_once r.srt)) (once_nodup r.once)).2 fun k => by rw [← find_mem, ← find_mem, r.look]
theorem RelT.len {l m : List Rw} (r : RelT l m) : m.length = l.length := by
  have := r.perm.length_eq
  simpa using this.symm
theorem find_get {l : List Rw} (hs : SrtR l) {i : Nat} {x : Rw} (h : l[i]? = some x) : findM l x.1 = some x.2 := by
  induction l generalizing i with
  | nil => simp at h
  | cons y l ih =>
    obtain ⟨h1, h2⟩ := List.pairwise_cons.1 hs
    obtain ⟨a, v⟩ := y
    simp only [findM]
    cases i with
    | zero => simp at h; subst h; simp
    | succ i =>
      rw [List.getElem?_cons_succ] at h
      rw [if_neg (Ne.symm (bl_ne (h1 x (List.mem_of_getElem? h))))]
      exact ih h2 h
/-- A map of rows themselves. -/
theorem RelT.self {l : List Rw} (h : SrtR l) : RelT l l := ⟨h, srt_once h, fun _ => rfl⟩
theorem len_ins (k : List UInt8) (v : Int) (l : List Rw) : (insR k v l).length = l.length + 1 := by
  have := below_le k l
  rw [ins_eq]; simp only [List.length_append, List.length_take, List.length_cons, List.length_nil, List.length_drop]; omega
end Go.Proofs.Ytlcanameloklbaa.Tp

namespace Go.Proofs.Ytlcanameloklbaa.Tp
set_option maxRecDepth 100000
set_option maxHeartbeats 80000000
open Go.Sym

def sortRen : Go.Shelf.Ren := ⟨fun n => match n with
  | 190 => 87 | 125 => 97 | 128 => 109 | 129 => 110 | 258 => 96 | 302 => 100 | 303 => 101 | 304 => 102 | 305 => 103 | 306 => 104 | 307 => 105 | 308 => 106 | 309 => 107 | 310 => 108 | 329 => 112 | 330 => 113 | 333 => 111 | 334 => 114 | 335 => 115 | 336 => 116 | 344 => 117 | n => n,
 fun n => match n with
  | 0 => 0 | 3 => 3 | 4 => 4 | 5 => 5 | 9 => 9 | 31 => 126 | 46 => 93 | 51 => 157 | 53 => 92 | 131 => 71 | 182 => 149 | 183 => 150 | 218 => 158 | 222 => 162 | 228 => 164 | 229 => 37 | n => n, fun n => n⟩
theorem sortLays : Lays.n190 Try.prog sortRen where
  mixed := rfl
  f190 := Try.func87
  f125 := Try.func97
  f128 := Try.func109
  f129 := Try.func110
  f258 := Try.func96
  f302 := Try.func100
  f303 := Try.func101
  f304 := Try.func102
  f305 := Try.func103
  f306 := Try.func104
  f307 := Try.func105
  f308 := Try.func106
  f309 := Try.func107
  f310 := Try.func108
  f329 := Try.func112
  f330 := Try.func113
  f333 := Try.func111
  f334 := Try.func114
  f335 := Try.func115
  f336 := Try.func116
  f344 := Try.func117
  t0 := Try.underlying0
  a0 := Try.isAgg0
  z0 := Try.sizeOf0
  v0 := Try.zeroValue0
  t3 := Try.underlying3
  a3 := Try.isAgg3
  z3 := Try.sizeOf3
  v3 := Try.zeroValue3
  t4 := Try.underlying4
  a4 := Try.isAgg4
  z4 := Try.sizeOf4
  v4 := Try.zeroValue4
  t5 := Try.underlying5
  a5 := Try.isAgg5
  z5 := Try.sizeOf5
  v5 := Try.zeroValue5
  t9 := Try.underlying9
  a9 := Try.isAgg9
  z9 := Try.sizeOf9
  v9 := Try.zeroValue9
  t31 := Try.underlying126
  a31 := Try.isAgg126
  z31 := Try.sizeOf126
  v31 := Try.zeroValue126
  t46 := Try.underlying93
  a46 := Try.isAgg93
  z46 := Try.sizeOf93
  v46 := Try.zeroValue93
  t51 := Try.underlying157
  a51 := Try.isAgg157
  z51 := Try.sizeOf157
  v51 := Try.zeroValue157
  t53 := Try.underlying92
  a53 := Try.isAgg92
  z53 := Try.sizeOf92
  v53 := Try.zeroValue92
  t131 := Try.underlying71
  a131 := Try.isAgg71
  z131 := Try.sizeOf71
  v131 := Try.zeroValue71
  t182 := Try.underlying149
  a182 := Try.isAgg149
  z182 := Try.sizeOf149
  v182 := Try.zeroValue149
  t183 := Try.underlying150
  a183 := Try.isAgg150
  z183 := Try.sizeOf150
  v183 := Try.zeroValue150
  t218 := Try.underlying158
  a218 := Try.isAgg158
  z218 := Try.sizeOf158
  v218 := Try.zeroValue158
  t222 := Try.underlying162
  a222 := Try.isAgg162
  z222 := Try.sizeOf162
  v222 := Try.zeroValue162
  t228 := Try.underlying164
  a228 := Try.isAgg164
  z228 := Try.sizeOf164
  v228 := Try.zeroValue164
  t229 := Try.underlying37
  a229 := Try.isAgg37
  z229 := Try.sizeOf37
  v229 := Try.zeroValue37

def strsA (l : List (List UInt8)) : List AV := l.map .str
theorem rep_strs {F : Fix} {V : View} : ∀ (l : List (List UInt8)) (us : List Value), repL F V (strsA l) us ↔ us = l.map encStr
  | [], us => by
    show repL F V [] us ↔ us = []
    simp only [repL]
  | k :: l, us => by
    show repL F V (.str k :: strsA l) us ↔ us = encStr k :: l.map encStr
    constructor
    · rintro ⟨x1, r1, rfl, h1, h4⟩
      simp only [rep] at h1
      rw [h1, (rep_strs l r1).1 h4]
    · rintro rfl
      exact ⟨_, _, rfl, rfl, (rep_strs l _).2 rfl⟩
theorem strs_len (l : List (List UInt8)) : (strsA l).length = l.length := by simp [strsA]
theorem strs_map (l : List (List UInt8)) : (strsA l) = l.map AV.str := rfl
theorem swoS : Go.Sort.SWO Op.bytesLess := by
  refine ⟨bl_irr, fun x y z => bl_trans, fun x y z h1 h2 => ?_⟩
  rw [Bool.eq_false_iff]
  intro h
  by_cases e : x = y
  · subst e; rw [h2] at h; cases h
  · rcases bl_tot e with k | k
    · rw [h1] at k; cases k
    · have := bl_trans k h; rw [h2] at this; cases this
theorem putCells_list {α : Type} [Inhabited α] {enc : α → Value} {F : Array α} {c : Array Value} (h : F.size ≤ c.size) : (Go.Sort.putCells enc 0 F c).toList = F.toList.map enc ++ c.toList.drop F.size := by
  refine List.ext_getElem? fun t => ?_
  simp only [Go.Sort.putCells, Array.toList_mapIdx, List.getElem?_mapIdx, Nat.zero_le, true_and, Nat.zero_add, Nat.sub_zero, id]
  by_cases ht : t < F.size
  · rw [List.getElem?_append_left (by simpa using ht)]
    have hc : t < c.toList.length := by simp; omega
    rw [List.getElem?_eq_getElem hc]
    simp [ht]
  · rw [List.getElem?_append_right (by simpa using ht), List.getElem?_drop]
    simp only [List.length_map, Array.length_toList, ht, if_false, Option.map_id']
    congr 1
    omega

theorem grown {w w' : World} (hs : w.heap.size ≤ w'.heap.size) (ht : ∀ b, b < w.heap.size → w'.heap[b]? = w.heap[b]?) (ho : w'.os = w.os) (hta : w'.tape = w.tape) (hou : w'.output = w.output) (hd : w.drawn ≤ w'.drawn) : ∃ q os, w' = Go.Sort.grow (w.drewN q) os := by
  obtain ⟨h, t, d, o, u⟩ := w
  obtain ⟨h', t', d', o', u'⟩ := w'
  simp only at hs ht ho hta hou hd
  subst ho hta hou
  refine ⟨d' - d, h'.extract h.size h'.size, ?_⟩
  simp only [Go.Sort.grow, World.drewN, World.mk.injEq, true_and, and_true]
  refine ⟨?_, by omega⟩
  refine Array.ext_getElem? fun i => ?_
  by_cases hi : i < h.size
  · rw [Array.getElem?_append_left hi]
    exact ht i hi
  · rw [Array.getElem?_append_right (by omega), Array.getElem?_extract]
    by_cases hj : i < h'.size
    · rw [if_pos (by omega)]
      congr 1
      omega
    · rw [if_neg (by omega), Array.getElem?_eq_none (by omega)]

theorem Inv.grow {F : Fix} {V : View} {h : Heap} (os : List Obj) : ∀ {w : World}, Inv F V h w → Inv F V h (Go.Sort.grow w os.toArray) ∧ Step F V h w F V h (Go.Sort.grow w os.toArray) := by
  induction os with
  | nil => intro w i; rw [show Go.Sort.grow w (List.toArray []) = w from by simp [Go.Sort.grow]]; exact ⟨i, .refl ..⟩
  | cons o os ih =>
    intro w i
    have e : Go.Sort.grow w (o :: os).toArray = Go.Sort.grow (w.alloc o) os.toArray := by
      simp only [Go.Sort.grow, World.alloc, World.mk.injEq, and_true]
      apply Array.ext'
      simp
    obtain ⟨i2, s2⟩ := ih (i.allocAny o)
    rw [e]
    exact ⟨i2, (Step.alloc0 o).trans s2⟩

theorem sortS {l l' : List (List UInt8)} {pad : List AV} {c : Nat} (hp : l'.Perm l) (hs : l'.Pairwise fun a b => Op.bytesLess a b = true) (hl : l.length ≤ 1000000) :
    CallOK Try.prog 87 [.vec 0 0 l.length c] [(0, .cells (strsA l ++ pad))] 1 (Out (.tup []) [(0, .cells (strsA l' ++ pad))] 1) := by
  refine ⟨Try.call87, fun F V w vs i hf hr => ?_⟩
  obtain ⟨b, cs, e, hv, hh, hrl, ho⟩ := i.objs 0 _ rfl
  have hvs : vs.toArray = #[.slice (some ⟨b, 0, none⟩) l.length c] := by
    simp only [repL, rep] at hr
    obtain ⟨x, r, rfl, ⟨b', -, hb', rfl⟩, rfl⟩ := hr
    rw [hv] at hb'
    cases hb'
    rfl
  have hlen : l'.length = l.length := hp.length_eq
  have hlen2 := hrl.length
  rw [List.length_take, List.length_append, strs_len] at hlen2
  have hcs : l.length + pad.length ≤ cs.size := by
    have : cs.toList.length = cs.size := rfl
    omega
  have hcut : cs.toList.take l.length = l.map encStr := by
    have := hrl.take l.length
    rw [List.take_left' (strs_len l), List.take_take, List.length_append, strs_len, Nat.min_eq_left (by omega)] at this
    exact (rep_strs l _).1 this
  have hblk : b < w.heap.size := by
    rcases Nat.lt_or_ge b w.heap.size with h' | h'
    · exact h'
    · rw [Array.getElem?_eq_none h'] at hh; cases hh
  have hH : Go.Sort.Holds encStr w b 0 l.toArray := by
    intro j hj
    have hj3 : j < l.length := by simpa using hj
    constructor
    · simp only [World.cell?, hh, Nat.zero_add]
      have h1 : (cs.toList.take l.length)[j]? = some (encStr l[j]) := by rw [hcut]; simp [hj3]
      rw [List.getElem?_take, if_pos hj3] at h1
      rw [getElem!_pos _ j (by simpa using hj3)]
      simpa using h1
    · simp only [World.frozen?, hh]
      simp
  have hkey : l' = l.mergeSort fun x y => decide (x ≤ y) := by
    have h0 : (fun x y : List UInt8 => decide (x ≤ y)) = fun x y => !Op.bytesLess y x := by
      funext x y
      rw [bytesLess_eq, ← decide_not]
      rfl
    rw [h0]
    refine Go.Sort.sorted_unique_holds swoS ?_ l.toArray l'.toArray ⟨by simpa using hlen, fun i hi => ?_, ?_⟩ ?_
    · intro x y h1 h2
      exact Classical.byContradiction fun hne => by
        rcases bl_tot hne with k | k
        · rw [h1] at k; cases k
        · rw [h2] at k; cases k
    · have hi : l.length ≤ i := by simpa using hi
      rw [getElem!_neg _ _ (by simp; omega), getElem!_neg _ _ (by simp; omega)]
    · have ht : l'.take l.length = l' := List.take_of_length_le (by omega)
      simpa [ht] using hp
    · intro i j _ hij hj
      have hj : j < l'.length := by rw [hlen]; simpa using hj
      have := List.pairwise_iff_getElem.1 hs i j (by omega) hj hij
      rw [getElem!_pos _ j (by simpa using hj), getElem!_pos _ i (by simp; omega)]
      simpa using bl_asym this
  rw [hvs]
  refine (Any.slices_Sort_string sortLays b 0 c l w hH hblk (by omega)).mono ?_
  rintro e' w' ⟨rfl, n, os, rfl⟩
  rw [← hkey]
  have hFs : l'.toArray.size = l.length := by simp [hlen]
  have hput := putCells_list (enc := encStr) (F := l'.toArray) (c := cs) (by omega)
  rw [hFs] at hput
  have hput : (Go.Sort.putCells encStr 0 l'.toArray cs).toList = l'.map encStr ++ cs.toList.drop l.length := hput
  have hpad : repL F V pad ((cs.toList.drop l.length).take pad.length) := by
    have := hrl.drop l.length
    rw [List.drop_left' (strs_len l), List.drop_take, List.length_append, strs_len, Nat.add_sub_cancel_left] at this
    exact this
  have hml : (l'.map encStr).length = l.length := by rw [List.length_map, hlen]
  have hcutp : ((Go.Sort.putCells encStr 0 l'.toArray cs).toList.take (strsA l' ++ pad).length) = l'.map encStr ++ (cs.toList.drop l.length).take pad.length := by
    rw [hput, List.length_append, strs_len, hlen, List.take_append, List.take_of_length_le (by rw [hml]; omega), hml, Nat.add_sub_cancel_left]
  obtain ⟨i2, s2⟩ := i.setO (O' := .cells (strsA l' ++ pad)) (ob := .cells (Go.Sort.putCells encStr 0 l'.toArray cs) e (0, 0)) (id := 0) rfl (fun _ e => by cases e) (fun _ e => by cases e) hv hh fun w' hw' => ⟨b, _, e, hv, hw', by
    rw [hcutp]
    exact ((rep_strs l' _).2 rfl).append hpad, by
    rw [hcutp]
    intro x hx
    rcases List.mem_append.1 hx with hx | hx
    · obtain ⟨k, -, rfl⟩ := List.mem_map.1 hx
      rfl
    · refine ho x ?_
      rw [List.length_append, strs_len]
      have : (cs.toList.take (l.length + pad.length)).drop l.length = (cs.toList.drop l.length).take pad.length := by rw [List.drop_take, Nat.add_sub_cancel_left]
      rw [← this] at hx
      exact List.mem_of_mem_drop hx⟩
  have i3 := i2.drawn (w.drawn + n)
  have s3 := s2.trans (Step.dr _ (n := w.drawn + n) (Nat.le_add_right _ _))
  obtain ⟨i4, s4⟩ := Inv.grow os.toList i3
  have ew : Go.Sort.grow (Go.Sort.putRow encStr (Go.Sort.ahead w n) b 0 l'.toArray) os = Go.Sort.grow { ({ w with heap := w.heap.setIfInBounds b (.cells (Go.Sort.putCells encStr 0 l'.toArray cs) e (0, 0)) } : World) with drawn := w.drawn + n } os.toList.toArray := by
    unfold Go.Sort.putRow Go.Sort.mapBlock
    congr 1
    simp only [Go.Sort.ahead, World.mk.injEq, and_true, true_and]
    apply Array.ext_getElem?
    intro j
    rw [Array.getElem?_modify, Array.getElem?_setIfInBounds]
    by_cases hj : b = j
    · subst hj
      obtain ⟨_, he⟩ := Array.getElem?_eq_some_iff.1 hh
      simp [Go.Sort.onCells, hblk, he]
    · simp [hj]
  rw [ew]
  exact ⟨_, F, V, .tup [], _, 1, rfl, s3.trans s4, i4, hf, by simp only [rep]; exact ⟨[], rfl, rfl⟩, rfl, rfl, rfl⟩
theorem sortNone : CallOK Try.prog 87 [.sl .none 0 []] [] 0 (Out (.tup []) [] 0) := by
  refine ⟨Try.call87, fun F V w vs i hf hr => ?_⟩
  have hvs : ∃ p cap, vs.toArray = #[.slice p 0 cap] := by
    simp only [repL, rep] at hr
    obtain ⟨x, r, rfl, hx, rfl⟩ := hr
    rcases hx with ⟨b, o, cap, us, rfl, rfl, -⟩ | ⟨-, ⟨a, rfl⟩, -⟩
    · exact ⟨_, _, rfl⟩
    · exact ⟨_, _, rfl⟩
  obtain ⟨p, cap, hvs⟩ := hvs
  rw [hvs]
  refine (Any.slices_Sort_string_none sortLays p cap w).mono ?_
  rintro e w' ⟨rfl, rfl⟩
  exact ⟨_, F, V, .tup [], _, 0, rfl, .refl .., i, hf, by simp only [rep]; exact ⟨[], rfl, rfl⟩, rfl, rfl, rfl⟩
end Go.Proofs.Ytlcanameloklbaa.Tp

namespace Go.Proofs.Ytlcanameloklbaa.Tp
set_option maxRecDepth 100000
set_option maxHeartbeats 80000000
open Go.Sym

/-- The keys' closure, and its map. -/
abbrev KH (m : List Rw) : Heap := [(1, .cells [.map 0]), (0, .map (fE m))]
theorem mapKeys {m : List (List UInt8 × Int)} : CallOK Try.prog 81 [.map 0] [(0, .map (fE m))] 1 (Out (.fn 90 [.ptr 1 0]) (KH m) 2) := by
  refine callOK Try.call81 Try.func81 Try.ntmps81 rfl ?_
  (conv => arg 4; whnf); repeat (refine ⟨rfl, ?_⟩; conv => arg 4; whnf)
  exact ⟨rfl, rfl, rfl⟩

/-- Which keys have come, by their places. -/
def ksOf (m : List Rw) (is : List Nat) : List (List UInt8) := is.filterMap fun i => (m[i]?).map (·.1)
def seenOf (bs is : List Nat) : List Nat := is.map fun i => bs.getD i 0
structure KI (m : List Rw) where
  is : List Nat
  nd : is.Nodup
  lt : ∀ i ∈ is, i < m.length
  d : Nat
  l : List (List UInt8)
  hl : l = ksOf m is.reverse
def svK (d : Nat) : List (List UInt8) → AV
  | [] => .sl .zero 0 []
  | k :: l => .vec 5 0 (k :: l).length ((k :: l).length + d)
def rowK (d : Nat) : List (List UInt8) → Heap
  | [] => []
  | k :: l => [(5, .cells (strsA (k :: l) ++ List.replicate (d * width 0) .top))]

theorem ks_len (m : List Rw) (is : List Nat) : (ksOf m is.reverse).length ≤ is.length := by
  unfold ksOf
  have := List.length_filterMap_le (fun i => (m[i]?).map (·.1)) is.reverse
  simpa using this
theorem rowK_cl (ρ : Nat → Nat) (n : Nat) : ∀ l : List (List UInt8), renL ρ (strsA l ++ List.replicate n .top) = strsA l ++ List.replicate n .top
  | [] => by
    show renL ρ (List.replicate n .top) = List.replicate n .top
    clear rowK_cl
    induction n with
    | zero => rfl
    | succ n ih =>
      rw [List.replicate_succ]
      show AV.top :: renL ρ (List.replicate n .top) = _
      rw [ih]
  | k :: l => by
    show AV.str k :: renL ρ (strsA l ++ List.replicate n .top) = _
    rw [rowK_cl ρ n l]
    rfl
theorem row_eq (k : List UInt8) (l : List (List UInt8)) (x : List UInt8) (d d' : Nat) : (strsA (k :: l) ++ List.replicate (d * width 0) AV.top).take ((k :: l).length * width 0) ++ flatA 0 [.str x] ++ List.replicate (d' * width 0) AV.top = strsA (k :: (l ++ [x])) ++ List.replicate (d' * width 0) .top := by
  have hw : width 0 = 1 := rfl
  rw [hw, Nat.mul_one, List.take_left' (strs_len (k :: l))]
  have e : strsA (k :: (l ++ [x])) = strsA (k :: l) ++ [.str x] := by simp [strsA]
  rw [e]
  rfl
theorem ks_all {m : List (List UInt8 × Int)} {bs is : List Nat} (h1 : bs.length = m.length) (h3 : bs.Pairwise (· < ·)) (nd : is.Nodup) (lt : ∀ i ∈ is, i < m.length) (hall : ∀ b ∈ bs, b ∈ seenOf bs is) : (ksOf m is.reverse).Perm (m.map (·.1)) := by
  have hp : is.Perm (List.range m.length) := (List.perm_ext_iff_of_nodup nd List.nodup_range).2 fun i => by
    rw [List.mem_range]
    refine ⟨lt i, fun hi => ?_⟩
    have hi' : i < bs.length := by omega
    have hb := hall bs[i] (List.getElem_mem _)
    obtain ⟨j, hj, e⟩ := List.mem_map.1 hb
    have hj' : j < bs.length := by have := lt j hj; omega
    have e2 : bs[j]? = some bs[i] := by
      rw [List.getD_eq_getElem?_getD, List.getElem?_eq_getElem hj'] at e
      rw [List.getElem?_eq_getElem hj', ← e]; rfl
    have := pair_inj h3 (List.getElem?_eq_getElem hi') e2
    rw [this]; exact hj
  unfold ksOf
  rw [← range_map (·.1) m]
  exact ((List.reverse_perm is).trans hp).filterMap _
theorem ClO.rowK (l : List (List UInt8)) (n : Nat) : ClO (.cells (strsA l ++ List.replicate n .top)) := fun ρ => by
  show AObj.cells (renL ρ _) = _
  rw [rowK_cl]
theorem Cl.keys (l : List (List UInt8)) : Cl (.sl .none 0 (strsA l)) := fun ρ => by
  have : ∀ l : List (List UInt8), renL ρ (strsA l) = strsA l := fun l => by
    induction l with
    | nil => rfl
    | cons k l ih =>
      show AV.str k :: renL ρ (strsA l) = _
      rw [ih]; rfl
  show AV.sl .none 0 (renL ρ _) = _
  rw [this]
/-- What comes back: nothing, or a row of one's own. -/
def SrtEnd (m : List Rw) (l' : List (List UInt8)) : AV → Heap → Nat → Prop := fun a h n =>
  Fit 2 (.sl .none 0 (strsA l')) (KH m) 2 a h n ∨ ∃ c pad, 2 ≤ n ∧ a = .vec 5 0 l'.length c ∧ HeapLe h ((5, .cells (strsA l' ++ pad)) :: KH m) ∧ HeapCut 2 n (KH m)
@[reducible] noncomputable def kSt (m : List Rw) (bs : List Nat) (c : Nat) (x : KI m) : St := ⟨[(5, .ptr 4 0), (0, .yld 3)], (2, .cells [svK x.d x.l]) :: (4, .iter 0 c (seenOf bs x.is) c) :: (3, loopOf Try.f95 0 [(2, .ptr 2 0)] 13 .ready) :: (1, .cells [.map 0]) :: (0, .mapN (fE m) bs c) :: rowK x.d x.l, 6, 14⟩

theorem sortedF0 {m : List (List UInt8 × Int)} {l' : List (List UInt8)} (hp : l'.Perm (m.map (·.1))) (hs : l'.Pairwise fun a b => Op.bytesLess a b = true) (hl : m.length ≤ 1000000) :
    CallOK Try.prog 73 [.fn 90 [.ptr 1 0]] (KH m) 2 (SrtEnd m l') := by
  refine callOK Try.call73 Try.func73 Try.ntmps73 rfl ?_
  (conv => arg 4; whnf); repeat (refine ⟨rfl, ?_⟩; conv => arg 4; whnf)
  refine callOK Try.call86 Try.func86 Try.ntmps86 rfl ?_
  (conv => arg 4; whnf); repeat (refine ⟨rfl, ?_⟩; conv => arg 4; whnf)
  refine callOK Try.call95 Try.func95 Try.ntmps95 rfl ?_
  (conv => arg 4; whnf); repeat (refine ⟨rfl, ?_⟩; conv => arg 4; whnf)
  refine callOK Try.call90 Try.func90 Try.ntmps90 rfl ?_
  (conv => arg 4; whnf); repeat (refine ⟨rfl, ?_⟩; conv => arg 4; whnf)
  intro bs c h1 h2 h3
  (conv => arg 4; whnf); repeat (refine ⟨rfl, ?_⟩; conv => arg 4; whnf)
  have h1 : bs.length = m.length := by simpa [fE] using h1
  refine tri_loopG (ι := KI m) (kSt m bs c) (fun x => bs.length - x.is.length) ⟨[], List.nodup_nil, (fun n hn => by cases hn), 0, [], rfl⟩ (WkG.of rfl rfl ⟨Le.refl _ _, Le.refl _ _, trivial⟩ ⟨⟨_, rfl, LeL.cons Le.nilsZero (LeL.nil _)⟩, ⟨_, rfl, LeO.refl _ _⟩, ⟨_, rfl, LeO.loop ⟨Le.refl _ _, trivial⟩ rfl rfl rfl⟩, ⟨_, rfl, LeO.refl _ _⟩, ⟨_, rfl, LeO.refl _ _⟩, trivial⟩ ⟨rfl, rfl, trivial⟩ ⟨⟨by decide, rfl⟩, ⟨by decide, rfl⟩, ⟨by decide, rfl⟩, ⟨by decide, rfl⟩, ⟨by decide, ClO.fN _ _ _ _⟩, trivial⟩) ?_
  rintro ⟨is, nd, lt, d, l, hl0⟩
  have hil : is.length ≤ m.length := nodup_len' nd lt
  conv => arg 4; whnf
  refine ⟨⟨h2, ?_⟩, fun i n kv hi hkv hn => ?_, fun hall => ?_⟩
  · exact .inr (rng_ok (by rw [h1]; simp [fE]) h2)
  · obtain ⟨x, hx, rfl⟩ := fE_get hkv
    (conv => arg 4; whnf); repeat (refine ⟨rfl, ?_⟩; conv => arg 4; whnf)
    refine ⟨i, _, hi, hkv, ?_⟩
    (conv => arg 4; whnf); repeat (refine ⟨rfl, ?_⟩; conv => arg 4; whnf)
    have hni : i ∉ is := fun h => hn (List.mem_map.2 ⟨i, h, by rw [List.getD_eq_getElem?_getD, hi]; rfl⟩)
    have hlt : i < m.length := (List.getElem?_eq_some_iff.1 hx).1
    have hil2 : is.length + 1 ≤ m.length := nodup_len' (l := i :: is) (List.nodup_cons.2 ⟨hni, nd⟩) fun j hj => by
      rcases List.mem_cons.1 hj with rfl | hj
      · exact hlt
      · exact lt j hj
    have hlt2 : ∀ j ∈ i :: is, j < m.length := fun j hj => by
      rcases List.mem_cons.1 hj with rfl | hj
      · exact hlt
      · exact lt j hj
    have hl2 : l ++ [x.1] = ksOf m (i :: is).reverse := by
      rw [List.reverse_cons]
      unfold ksOf at hl0 ⊢
      rw [List.filterMap_append, ← hl0]
      simp [hx]
    have hseen : n :: seenOf bs is = seenOf bs (i :: is) := by
      unfold seenOf
      rw [List.map_cons, List.getD_eq_getElem?_getD, hi]; rfl
    cases l with
    | nil =>
      refine round_in ?_
      (conv => arg 4; whnf); repeat (refine ⟨rfl, ?_⟩; conv => arg 4; whnf)
      refine ⟨sizeOk 16 rfl (by simp), Or.inr ?_⟩
      (conv => arg 4; whnf); repeat (refine ⟨rfl, ?_⟩; conv => arg 4; whnf)
      refine ⟨⟨by simp, fun a ha => by simp at ha; subst ha; rfl⟩, ?_⟩
      (conv => arg 4; whnf); repeat (refine ⟨rfl, ?_⟩; conv => arg 4; whnf)
      intro d'
      (conv => arg 4; whnf); repeat (refine ⟨rfl, ?_⟩; conv => arg 4; whnf)
      refine ⟨fun h => absurd h (by first | (simp; done) | (simp [u8s]; done)), fun _ => ?_⟩
      conv => arg 4; whnf
      refine ⟨⟨i :: is, List.nodup_cons.2 ⟨hni, nd⟩, hlt2, d', [x.1], hl2⟩, by show bs.length - (is.length + 1) < bs.length - is.length; omega, WkG.rho [0, 1, 2, 3, 4, 6] rfl rfl rfl ⟨Le.refl _ _, Le.refl _ _, trivial⟩ ⟨⟨_, rfl, LeO.refl _ _⟩, ⟨_, rfl, ?_⟩, ⟨_, rfl, LeO.loop ⟨Le.refl _ _, trivial⟩ rfl rfl rfl⟩, ⟨_, rfl, LeO.refl _ _⟩, ⟨_, rfl, ?_⟩, ⟨_, rfl, ?_⟩, trivial⟩⟩
      · show LeO _ (.iter 0 c (n :: seenOf bs is) c) (.iter 0 c (seenOf bs (i :: is)) c)
        rw [hseen]; exact LeO.refl _ _
      · show LeO _ _ (renO _ (.mapN (fE m) bs c))
        rw [ClO.fN]; exact LeO.refl _ _
      · show LeL _ _ (renL _ _)
        rw [rowK_cl]
        exact LeL.refl _ _
    | cons k l =>
      refine round_in ?_
      (conv => arg 4; whnf); repeat (refine ⟨rfl, ?_⟩; conv => arg 4; whnf)
      refine ⟨⟨by rw [List.length_append, strs_len, List.length_replicate, Nat.add_mul, show (k :: l).length * width 0 = (k :: l).length from Nat.mul_one _], by simp, sizeOk 16 rfl ?_, fun a ha => by simp at ha; subst ha; rfl⟩, ?_⟩
      · have hkl : (k :: l).length ≤ is.length := by rw [hl0]; exact ks_len m is
        simp only [List.length_cons, List.length_nil] at hkl ⊢
        omega
      (conv => arg 4; whnf); repeat (refine ⟨rfl, ?_⟩; conv => arg 4; whnf)
      intro d'
      (conv => arg 4; whnf); repeat (refine ⟨rfl, ?_⟩; conv => arg 4; whnf)
      refine ⟨fun h => absurd h (by first | (simp; done) | (simp [u8s]; done)), fun _ => ?_⟩
      conv => arg 4; whnf
      refine ⟨⟨i :: is, List.nodup_cons.2 ⟨hni, nd⟩, hlt2, d', k :: (l ++ [x.1]), hl2⟩, by show bs.length - (is.length + 1) < bs.length - is.length; omega, WkG.rho [0, 1, 2, 3, 4, 6] rfl rfl rfl ⟨Le.refl _ _, Le.refl _ _, trivial⟩ ⟨⟨_, rfl, LeL.cons (Le.of_eq ?_) (LeL.nil _)⟩, ⟨_, rfl, ?_⟩, ⟨_, rfl, LeO.loop ⟨Le.refl _ _, trivial⟩ rfl rfl rfl⟩, ⟨_, rfl, LeO.refl _ _⟩, ⟨_, rfl, ?_⟩, ⟨_, rfl, ?_⟩, trivial⟩⟩
      · show AV.vec 6 0 ((k :: l).length + 1) ((k :: l).length + 1 + d') = .vec 6 0 (k :: (l ++ [x.1])).length ((k :: (l ++ [x.1])).length + d')
        simp only [List.length_cons, List.length_append, List.length_nil]
      · show LeO _ (.iter 0 c (n :: seenOf bs is) c) (.iter 0 c (seenOf bs (i :: is)) c)
        rw [hseen]; exact LeO.refl _ _
      · show LeO _ _ (renO _ (.mapN (fE m) bs c))
        rw [ClO.fN]; exact LeO.refl _ _
      · show LeL _ _ (renL _ _)
        rw [rowK_cl, ← row_eq]
        exact LeL.refl _ _
  · have hks := ks_all h1 h3 nd lt hall
    rw [← hl0] at hks
    have hpl : l'.Perm l := hp.trans hks.symm
    cases l with
    | nil =>
      have e : l' = [] := List.Perm.eq_nil hpl
      subst e
      (conv => arg 4; whnf); repeat (refine ⟨rfl, ?_⟩; conv => arg 4; whnf)
      refine fin_exit ?_
      show holds _ _ _ _
      conv => arg 4; whnf
      refine ret_in ?_
      show holds _ _ _ _
      conv => arg 4; whnf
      refine ret_in ?_
      show holds _ _ _ _
      conv => arg 4; whnf
      refine ret_in ?_
      show holds _ _ _ _
      conv => arg 4; whnf
      refine holds_args (args' := [.sl .none 0 []]) ⟨Le.none, trivial⟩ ?_
      refine call0 sortNone (fun ρ => rfl) (by (repeat' (first | with_reducible assumption | exact ClL.nil | exact Cl.int _ _ | exact Cl.bool _ | exact Cl.bl _ | exact Cl.bs _ | exact Cl.str _ | exact Cl.nils | exact Cl.nilp | exact Cl.rec _ | exact Cl.bat _ | exact Cl.recsV _ | exact Cl.strsV _ | exact Cl.intsV _ | exact Cl.req _ | exact Cl.rsp _ | exact Cl.reqA _ | exact Cl.rspA _ | exact Cl.batsV _ | exact Cl.prsV _ | exact Cl.atsV _ | exact Cl.entA _ _ | exact Cl.ent _ | exact Cl.rr _ _ | exact Cl.foundA _ | exact Cl.getB _ | exact Cl.encA _ | exact Cl.firstA _ | refine ClL.cons ?_ ?_ | refine Cl.tup ?_ | refine Cl.agg ?_ | exact ClO.RO _ _))) ?_
      (conv => arg 4; whnf); repeat (refine ⟨rfl, ?_⟩; conv => arg 4; whnf)
      exact .inl ⟨by decide, Le.none, ⟨⟨_, rfl, LeO.refl _ _⟩, ⟨_, rfl, rfl⟩, trivial⟩, rfl, ⟨⟨by decide, rfl⟩, ⟨by decide, ClO.fE _ _⟩, trivial⟩⟩
    | cons k l =>
      have hkl : (k :: l).length ≤ is.length := by rw [hl0]; exact ks_len m is
      (conv => arg 4; whnf); repeat (refine ⟨rfl, ?_⟩; conv => arg 4; whnf)
      refine fin_exit ?_
      show holds _ _ _ _
      conv => arg 4; whnf
      refine ret_in ?_
      show holds _ _ _ _
      conv => arg 4; whnf
      refine ret_in ?_
      show holds _ _ _ _
      conv => arg 4; whnf
      refine ret_in ?_
      show holds _ _ _ _
      conv => arg 4; whnf
      refine call1 5 (sortS (l := k :: l) (l' := l') (pad := List.replicate (d * width 0) .top) (c := (k :: l).length + d) hpl hs (by omega)) rfl rfl (ClO.rowK _ _) (ClO.rowK _ _) rfl (Cl.tup ClL.nil) ?_
      (conv => arg 4; whnf); repeat (refine ⟨rfl, ?_⟩; conv => arg 4; whnf)
      refine .inr ⟨(k :: l).length + d, List.replicate (d * width 0) .top, by decide, by rw [hpl.length_eq], ⟨⟨_, rfl, LeO.refl _ _⟩, ⟨_, rfl, LeO.refl _ _⟩, ⟨_, rfl, rfl⟩, trivial⟩, ⟨⟨by decide, rfl⟩, ⟨by decide, ClO.fE _ _⟩, trivial⟩⟩

theorem sortedF {m : List (List UInt8 × Int)} {l' : List (List UInt8)} (hp : l'.Perm (m.map (·.1))) (hs : l'.Pairwise fun a b => Op.bytesLess a b = true) (hl : m.length ≤ 1000000) :
    CallOK Try.prog 73 [.fn 90 [.ptr 1 0]] (KH m) 2 (Out (.sl .none 0 (strsA l')) (KH m) 2) := by
  refine CallOK.fit (by decide) ((sortedF0 hp hs hl).ghost fun a h n hK => ?_)
  rcases hK with hK | ⟨c, pad, hn, rfl, hh, hc⟩
  · exact ⟨a, h, n, hK.1, Gh.le (fun _ => Le.refl _ _) (fun id o hg => ⟨o, hg, LeO.refl _ _⟩), hK⟩
  · refine ⟨.sl .none 0 (strsA l'), KH m, n, hn, (Gh.le (fun _ => Le.refl _ _) hh.le).trans (Gh.freezeV (k := 0) (m := l'.length) (els := strsA l') (l := strsA l' ++ pad) (id := 5) rfl (fun F V us hr _ => ?_) (fun _ => .inr (.inr ⟨c, rfl, rfl⟩)) ?_), ⟨hn, Le.refl _ _, ⟨⟨_, rfl, LeO.refl _ _⟩, ⟨_, rfl, LeO.refl _ _⟩, trivial⟩, Cl.keys _ _, hc⟩⟩
    · have h1 := hr.take l'.length
      rw [List.take_left' (strs_len l')] at h1
      have h1 := (rep_strs l' _).1 h1
      refine ⟨l'.map encStr, us.drop l'.length, by simp, (rep_strs l' _).2 rfl, ?_, ?_⟩
      · intro x hx
        obtain ⟨k, -, rfl⟩ := List.mem_map.1 hx
        rfl
      · have e : flat (l'.map encStr) = l'.map encStr := Go.Sym.flat_one fun x hx => by
          obtain ⟨k, -, rfl⟩ := List.mem_map.1 hx
          rfl
        rw [e, ← h1, List.take_append_drop]
    · intro j o hg
      have : j = 1 ∨ j = 0 := by
        rw [get_cons'] at hg
        by_cases e : 1 = j
        · exact .inl e.symm
        · rw [if_neg e, get_cons'] at hg
          by_cases e : 0 = j
          · exact .inr e.symm
          · rw [if_neg e] at hg; cases hg
      rcases this with rfl | rfl
      · exact ⟨by decide, hg⟩
      · exact ⟨by decide, hg⟩
end Go.Proofs.Ytlcanameloklbaa.Tp

namespace Go.Proofs.Ytlcanameloklbaa.Tp
set_option maxRecDepth 100000
set_option maxHeartbeats 80000000
open Go.Sym

abbrev bs (l : List UInt8) : AV := .sl .none 0 (u8s l)
theorem Cl.bs (l : List UInt8) : Cl (Tp.bs l) := fun ρ => by simp only [ren, renL_u8s, renP]
def rowB (x : Rw) : List UInt8 := put x.1.length ++ x.1 ++ put x.2
def rowsB (l : List Rw) : List UInt8 := l.flatMap rowB
def encR (l : List Rw) : List UInt8 := put l.length ++ rowsB l
def fineR (l : List Rw) : Prop := ∀ x ∈ l, x.1.length ≤ 20 ∧ 1 ≤ x.2 ∧ x.2 ≤ 20
theorem rowB_len {x : Rw} (h : x.1.length ≤ 20 ∧ 1 ≤ x.2 ∧ x.2 ≤ 20) : (rowB x).length ≤ 40 := by
  have h1 := put_len (n := (x.1.length : Int)) (by unfold I64; omega)
  have h2 := put_len (n := x.2) (by unfold I64; omega)
  simp only [rowB, List.length_append]; omega
theorem rowsB_len : ∀ {l : List Rw}, fineR l → (rowsB l).length ≤ 40 * l.length
  | [], _ => Nat.zero_le _
  | x :: l, h => by
    have h1 := rowB_len (h x List.mem_cons_self)
    have h2 := rowsB_len (l := l) fun y hy => h y (List.mem_cons_of_mem _ hy)
    unfold rowsB at h2 ⊢
    rw [List.flatMap_cons, List.length_append, List.length_cons]; omega
theorem encR_len {l : List Rw} (h : fineR l) (hl : l.length ≤ 1000) : (encR l).length ≤ 50000 := by
  have h1 := rowsB_len h
  have h2 := put_len (n := (l.length : Int)) (by unfold I64; omega)
  simp only [encR, List.length_append]; omega

theorem srt_keys {l : List Rw} (h : SrtR l) : (l.map (·.1)).Pairwise fun a b => Op.bytesLess a b = true := List.pairwise_map.2 h
theorem names_get {l : List Rw} {i : Nat} (h : i < l.length) : (strsA (l.map (·.1)))[((i : Nat) : Int).toNat]? = some (.str l[i].1) := by simp [strsA, h]
theorem names_len (l : List Rw) : (strsA (l.map (·.1))).length = l.length := by simp [strsA]
theorem rows_take {l : List Rw} {i : Nat} (h : i < l.length) : rowsB (l.take (i + 1)) = rowsB (l.take i) ++ rowB l[i] := by
  unfold rowsB
  rw [List.take_add_one, List.getElem?_eq_getElem h, List.flatMap_append]
  simp
structure EnI (l : List Rw) where
  i : Nat
  hi : i ≤ l.length
theorem encode {l m : List Rw} (r : RelT l m) (hf : fineR l) (hl : l.length ≤ 1000) : CallOK Try.prog 85 [.map 0] [(0, .map (fE m))] 1 (Out (bs (encR l)) [(0, .map (fE m))] 1) := by
  have hmn : (fE m).length = l.length := by rw [fE, List.length_map, r.len]
  refine CallOK.fit (by decide) ?_
  refine callOK Try.call85 Try.func85 Try.ntmps85 rfl ?_
  (conv => arg 4; whnf); repeat (refine ⟨rfl, ?_⟩; conv => arg 4; whnf)
  refine holds_wnew 1 0 [.bl false] [.bool false] rfl (LeL.cons Le.bl (LeL.nil _)) (by decide) ?_
  refine holds_args (args' := [.ptr 1 0, .int .i64 (l.length : Int)]) ⟨Le.refl _ _, Le.of_eq (by show AV.int .i64 ((fE m).length : Int) = _; rw [hmn]), trivial⟩ ?_
  refine callW 1 2 (wNum (n := (l.length : Int)) (l := []) (by unfold I64; omega) (by simp)) (by decide) (by decide) rfl rfl (ClL.u8s _) (ClL.cons (Cl.bool _) ClL.nil) (ClL.u8s _) (ClL.cons (Cl.bool _) ClL.nil) rfl rfl ?_
  (conv => arg 4; whnf); repeat (refine ⟨rfl, ?_⟩; conv => arg 4; whnf)
  refine callOK Try.call81 Try.func81 Try.ntmps81 rfl ?_
  (conv => arg 4; whnf); repeat (refine ⟨rfl, ?_⟩; conv => arg 4; whnf)
  refine ret_in ?_
  show holds _ _ _ _
  conv => arg 4; whnf
  refine callG [0, 3] (.sl .none 0 (strsA (l.map (·.1)))) [(2, .tip 1), (1, .cells [.sl (.tok 2 1) 0 (u8s (put l.length)), .bool false]), (0, .map (fE m))] (sortedF r.perm (srt_keys r.srt) (by rw [r.len]; omega)) rfl ⟨⟨by simp, rfl⟩, ⟨by simp, by rw [ClO.fE]; rfl⟩, trivial⟩ rfl (Le.cl (Cl.keys _)) ⟨⟨_, rfl, LeO.refl _ _⟩, ⟨_, rfl, LeO.refl _ _⟩, ⟨_, rfl, LeO.cl (ClO.fE _)⟩, trivial⟩ ?_
  (conv => arg 4; whnf); repeat (refine ⟨rfl, ?_⟩; conv => arg 4; whnf)
  refine tri_loopG (ι := EnI l) (fun x => ⟨[(16, .int .i64 x.i), (15, .int .i64 l.length), (14, .sl .none 0 (strsA (l.map (·.1)))), (3, .ptr 1 0), (0, .map 0)], [(2, .tip (1 + 3 * x.i)), (1, .cells [.sl (.tok 2 (1 + 3 * x.i)) 0 (u8s (put l.length ++ rowsB (l.take x.i))), .bool false]), (0, .map (fE m))], 4, 34⟩) (fun x => l.length - x.i) ⟨0, Nat.zero_le _⟩ (WkG.of rfl rfl ⟨Le.refl _ _, Le.of_eq (congrArg (AV.int .i64) (by rw [names_len])), Le.refl _ _, Le.refl _ _, Le.refl _ _, trivial⟩ ⟨⟨_, rfl, LeO.refl _ _⟩, ⟨_, rfl, LeL.cons (Le.of_eq (by simp [rowsB])) (LeL.refl _ _)⟩, ⟨_, rfl, LeO.refl _ _⟩, trivial⟩ ⟨rfl, rfl, Cl.keys _ _, rfl, rfl, trivial⟩ ⟨⟨by decide, rfl⟩, ⟨by decide, by simp only [renO, renL, ren, renL_u8s]; rfl⟩, ⟨by decide, ClO.fE _ _⟩, trivial⟩) ?_
  rintro ⟨i, hi⟩
  dsimp only
  (conv => arg 4; whnf); repeat (refine ⟨rfl, ?_⟩; conv => arg 4; whnf)
  have hput := put_len (n := (l.length : Int)) (by unfold I64; omega)
  have hrows : (rowsB (l.take i)).length ≤ 40 * i := by
    have := rowsB_len (l := l.take i) fun y hy => hf y (List.mem_of_mem_take hy)
    rw [List.length_take] at this
    omega
  refine ⟨fun h => ?_, fun h => ?_⟩
  · have hlt : i < l.length := by simp at h; omega
    (conv => arg 4; whnf); repeat (refine ⟨rfl, ?_⟩; conv => arg 4; whnf)
    refine ⟨.str l[i].1, ⟨by omega, names_get hlt⟩, ?_⟩
    (conv => arg 4; whnf); repeat (refine ⟨rfl, ?_⟩; conv => arg 4; whnf)
    have hfx := hf l[i] (List.getElem_mem hlt)
    have hlk : lookV (fE m) (.str l[i].1) (.int .i64 0) false = .int .i64 l[i].2 := by rw [look_fE, r.look, find_get r.srt (List.getElem?_eq_getElem hlt)]; rfl
    have hpl := put_len (n := (l[i].1.length : Int)) (by unfold I64; omega)
    refine ⟨.int .i64 l[i].2, ⟨by decide, congrArg some hlk⟩, ?_⟩
    (conv => arg 4; whnf); repeat (refine ⟨rfl, ?_⟩; conv => arg 4; whnf)
    refine ⟨askF m l[i].1, ?_⟩
    (conv => arg 4; whnf); repeat (refine ⟨rfl, ?_⟩; conv => arg 4; whnf)
    refine callW 1 2 (wText (b := l[i].1) (by simp only [List.length_append]; omega)) (by decide) (by decide) rfl rfl (ClL.u8s _) (ClL.cons (Cl.bool _) ClL.nil) (ClL.u8s _) (ClL.cons (Cl.bool _) ClL.nil) rfl rfl ?_
    (conv => arg 4; whnf); repeat (refine ⟨rfl, ?_⟩; conv => arg 4; whnf)
    refine callW 1 2 (wNum (n := l[i].2) (by unfold I64; omega) (by simp only [List.length_append]; omega)) (by decide) (by decide) rfl rfl (ClL.u8s _) (ClL.cons (Cl.bool _) ClL.nil) (ClL.u8s _) (ClL.cons (Cl.bool _) ClL.nil) rfl rfl ?_
    (conv => arg 4; whnf); repeat (refine ⟨rfl, ?_⟩; conv => arg 4; whnf)
    refine ⟨⟨i + 1, hlt⟩, by show l.length - (i + 1) < l.length - i; omega, WkG.of rfl rfl ⟨Le.of_eq (succ_int (by omega)), Le.refl _ _, Le.refl _ _, Le.refl _ _, Le.refl _ _, trivial⟩ ⟨⟨_, rfl, ?_⟩, ⟨_, rfl, LeL.cons (Le.of_eq ?_) (LeL.refl _ _)⟩, ⟨_, rfl, LeO.refl _ _⟩, trivial⟩ ⟨rfl, rfl, Cl.keys _ _, rfl, rfl, trivial⟩ ⟨⟨by decide, rfl⟩, ⟨by decide, by simp only [renO, renL, ren, renL_u8s]; rfl⟩, ⟨by decide, ClO.fE _ _⟩, trivial⟩⟩
    · show LeO _ (AObj.tip (1 + 3 * i + 2 + 1)) (.tip (1 + 3 * (i + 1)))
      rw [show 1 + 3 * (i + 1) = 1 + 3 * i + 2 + 1 by omega]
      exact LeO.refl _ _
    · show AV.sl (.tok 2 (1 + 3 * i + 2 + 1)) 0 _ = .sl (.tok 2 (1 + 3 * (i + 1))) 0 (u8s (put l.length ++ rowsB (l.take (i + 1))))
      rw [show 1 + 3 * (i + 1) = 1 + 3 * i + 2 + 1 by omega, rows_take hlt]
      simp only [rowB, List.append_assoc]
  · have hlt : i = l.length := by simp at h; omega
    (conv => arg 4; whnf); repeat (refine ⟨rfl, ?_⟩; conv => arg 4; whnf)
    refine fin_exit ?_
    show holds _ _ _ _
    conv => arg 4; whnf
    refine callW 1 2 (wDone (by simp only [List.length_append]; omega)) (by decide) (by decide) rfl rfl (ClL.u8s _) (ClL.cons (Cl.bool _) ClL.nil) (ClL.u8s _) (ClL.cons (Cl.bool _) ClL.nil) rfl rfl ?_
    (conv => arg 4; whnf); repeat (refine ⟨rfl, ?_⟩; conv => arg 4; whnf)
    refine ⟨by decide, Le.noneOf ?_, ⟨⟨_, rfl, LeO.refl _ _⟩, trivial⟩, Cl.bs _ _, ⟨⟨by decide, ClO.fE _ _⟩, trivial⟩⟩
    rw [hlt, List.take_length, renL_u8s]; rfl
end Go.Proofs.Ytlcanameloklbaa.Tp

namespace Go.Proofs.Ytlcanameloklbaa.Tp
set_option maxRecDepth 100000
set_option maxHeartbeats 80000000
open Go.Sym

def okC (c : UInt8) : Bool := !((decide (c.toNat < 97) || decide (122 < c.toNat)) && (decide (c.toNat < 48) || decide (57 < c.toNat)))
/-- May a text be a name? -/
def nm (s : List UInt8) : Bool := s.all okC && (decide (1 ≤ s.length) && decide (s.length ≤ 20))
theorem nm_len {s : List UInt8} (h : nm s = true) : 1 ≤ s.length ∧ s.length ≤ 20 := by
  simp only [nm, Bool.and_eq_true, decide_eq_true_eq] at h
  omega
theorem nm_no {s : List UInt8} {i : Nat} {c : UInt8} (hc : s[i]? = some c) (h : okC c = false) : nm s = false := by
  unfold nm
  have : s.all okC = false := by
    rw [List.all_eq_false]
    exact ⟨c, List.mem_of_getElem? hc, by simp [h]⟩
  rw [this]; rfl

structure NmI (s : List UInt8) where
  i : Nat
  hi : i ≤ s.length
  h : (s.take i).all okC = true

theorem tpName {s : List UInt8} (hl : s.length ≤ 1000000) : CallOK Try.prog 82 [.str s] [] 0 (Out (.bool (nm s)) [] 0) := by
  refine CallOK.fit (by decide) ?_
  refine callOK Try.call82 Try.func82 Try.ntmps82 rfl ?_
  conv => arg 4; whnf
  refine tri_loopG (ι := NmI s) (fun a => ⟨[(8, .int .i64 a.i), (7, .int .i64 (u8s s).length), (6, bs s), (0, .str s)], [], 0, 35⟩) (fun a => s.length - a.i) ⟨0, Nat.zero_le _, rfl⟩ (WkG.of rfl rfl ⟨Le.refl _ _, Le.refl _ _, Le.refl _ _, Le.refl _ _, trivial⟩ trivial ⟨rfl, rfl, Cl.bs _ _, rfl, trivial⟩ trivial) ?_
  rintro ⟨i, hi, ha⟩
  dsimp only
  conv => arg 4; whnf
  refine ⟨fun h => ?_, fun h => ?_⟩
  · have h : i < s.length := by first | (rw [u8s_length] at h; simp at h; omega) | (simp at h; omega)
    obtain ⟨c, hc⟩ : ∃ c, s[i]? = some c := ⟨_, List.getElem?_eq_getElem h⟩
    have htk : (s.take (i + 1)).all okC = okC c := by
      rw [List.take_add_one, hc, List.all_append, ha]; simp
    conv => arg 4; whnf
    refine ⟨u8 c, ⟨by omega, by simp [u8s, hc]⟩, ?_⟩
    (conv => arg 4; whnf); repeat (refine ⟨rfl, ?_⟩; conv => arg 4; whnf)
    refine ⟨fun hb => ?_, fun hb => ?_⟩
    · have hno : okC c = false := by
        unfold okC
        simp only [Bool.cond_true_left, Bool.cond_false_right, Bool.or_eq_true, Bool.and_eq_true, Bool.not_eq_true', decide_eq_true_eq, beq_iff_eq, bne_iff_ne, u8s_length, Bool.not_eq_true, gt_iff_lt, ge_iff_le] at hb
        simp
        omega
      have hnm : nm s = false := nm_no hc hno
      (conv => arg 4; whnf); repeat (refine ⟨rfl, ?_⟩; conv => arg 4; whnf)
      refine fin_ret ?_
      show holds _ _ _ _
      conv => arg 4; whnf
      rw [hnm]
      exact ⟨by decide, by (repeat' (first | with_reducible exact Le.refl _ _ | exact Le.bl | exact Le.lb | exact Le.nils | exact Le.nilsFull | exact Le.none | exact LeL.nil _ | refine LeL.cons ?_ ?_ | refine Le.tup ?_ | refine Le.agg ?_ | exact Le.refl _ _ | exact LeL.refl _ _)), trivial, (by (repeat' (first | with_reducible assumption | exact ClL.nil | exact Cl.int _ _ | exact Cl.bool _ | exact Cl.bl _ | exact Cl.bs _ | exact Cl.str _ | exact Cl.nils | exact Cl.nilp | exact Cl.rec _ | exact Cl.bat _ | exact Cl.recsV _ | exact Cl.strsV _ | exact Cl.intsV _ | exact Cl.req _ | exact Cl.rsp _ | exact Cl.reqA _ | exact Cl.rspA _ | exact Cl.batsV _ | exact Cl.prsV _ | exact Cl.atsV _ | exact Cl.entA _ _ | exact Cl.ent _ | exact Cl.rr _ _ | exact Cl.foundA _ | exact Cl.getB _ | exact Cl.encA _ | exact Cl.firstA _ | refine ClL.cons ?_ ?_ | refine Cl.tup ?_ | refine Cl.agg ?_ | exact ClO.RO _ _)) : Cl _) _, trivial⟩
    · have hyes : okC c = true := by
        unfold okC
        rw [← Bool.not_eq_true] at hb; simp only [Bool.cond_true_left, Bool.cond_false_right, Bool.or_eq_true, Bool.and_eq_true, Bool.not_eq_true', decide_eq_true_eq, beq_iff_eq, bne_iff_ne, u8s_length, gt_iff_lt, ge_iff_le] at hb
        simp
        omega
      (conv => arg 4; whnf); repeat (refine ⟨rfl, ?_⟩; conv => arg 4; whnf)
      exact ⟨⟨i + 1, by omega, by rw [htk, hyes]⟩, by show s.length - (i + 1) < s.length - i; omega, WkG.of rfl rfl ⟨Le.of_eq (succ_int (by omega)), Le.refl _ _, Le.refl _ _, Le.refl _ _, trivial⟩ trivial ⟨rfl, rfl, Cl.bs _ _, rfl, trivial⟩ trivial⟩
  · have h : i = s.length := by first | (rw [u8s_length] at h; simp at h; omega) | (simp at h; omega)
    rw [h, List.take_length] at ha
    conv => arg 4; whnf
    refine fin_exit ?_
    show holds _ _ _ _
    conv => arg 4; whnf
    have hnm : (bif decide ((s.length : Int) ≥ 1) then decide ((s.length : Int) ≤ 20) else false) = nm s := by
      unfold nm
      rw [ha, Bool.eq_iff_iff]
      simp
      omega
    rw [hnm]
    exact ⟨by decide, by (repeat' (first | with_reducible exact Le.refl _ _ | exact Le.bl | exact Le.lb | exact Le.nils | exact Le.nilsFull | exact Le.none | exact LeL.nil _ | refine LeL.cons ?_ ?_ | refine Le.tup ?_ | refine Le.agg ?_ | exact Le.refl _ _ | exact LeL.refl _ _)), trivial, (by (repeat' (first | with_reducible assumption | exact ClL.nil | exact Cl.int _ _ | exact Cl.bool _ | exact Cl.bl _ | exact Cl.bs _ | exact Cl.str _ | exact Cl.nils | exact Cl.nilp | exact Cl.rec _ | exact Cl.bat _ | exact Cl.recsV _ | exact Cl.strsV _ | exact Cl.intsV _ | exact Cl.req _ | exact Cl.rsp _ | exact Cl.reqA _ | exact Cl.rspA _ | exact Cl.batsV _ | exact Cl.prsV _ | exact Cl.atsV _ | exact Cl.entA _ _ | exact Cl.ent _ | exact Cl.rr _ _ | exact Cl.foundA _ | exact Cl.getB _ | exact Cl.encA _ | exact Cl.firstA _ | refine ClL.cons ?_ ?_ | refine Cl.tup ?_ | refine Cl.agg ?_ | exact ClO.RO _ _)) : Cl _) _, trivial⟩
theorem refTopic {s : List UInt8} (hl : s.length ≤ 1000000) : CallOK Try.prog 64 [.str s] [] 0 (Out (.bool (nm s)) [] 0) := by
  refine CallOK.fit (by decide) ?_
  refine callOK Try.call64 Try.func64 Try.ntmps64 rfl ?_
  conv => arg 4; whnf
  refine tri_loopG (ι := NmI s) (fun a => ⟨[(3, .int .i64 a.i), (0, .str s)], [], 0, 40⟩) (fun a => s.length - a.i) ⟨0, Nat.zero_le _, rfl⟩ (WkG.of rfl rfl ⟨Le.refl _ _, Le.refl _ _, trivial⟩ trivial ⟨rfl, rfl, trivial⟩ trivial) ?_
  rintro ⟨i, hi, ha⟩
  dsimp only
  conv => arg 4; whnf
  refine ⟨fun h => ?_, fun h => ?_⟩
  · have h : i < s.length := by first | (rw [u8s_length] at h; simp at h; omega) | (simp at h; omega)
    obtain ⟨c, hc⟩ : ∃ c, s[i]? = some c := ⟨_, List.getElem?_eq_getElem h⟩
    have htk : (s.take (i + 1)).all okC = okC c := by
      rw [List.take_add_one, hc, List.all_append, ha]; simp
    conv => arg 4; whnf
    refine ⟨u8 c, ⟨by omega, by simp [u8s, hc]⟩, ?_⟩
    (conv => arg 4; whnf); repeat (refine ⟨rfl, ?_⟩; conv => arg 4; whnf)
    refine ⟨u8 c, ctxP_of ⟨by omega, by simp [u8s, hc]⟩, ?_⟩
    (conv => arg 4; whnf); repeat (refine ⟨rfl, ?_⟩; conv => arg 4; whnf)
    refine ⟨u8 c, ctxP_of ⟨by omega, by simp [u8s, hc]⟩, ?_⟩
    (conv => arg 4; whnf); repeat (refine ⟨rfl, ?_⟩; conv => arg 4; whnf)
    refine ⟨u8 c, ctxP_of ⟨by omega, by simp [u8s, hc]⟩, ?_⟩
    (conv => arg 4; whnf); repeat (refine ⟨rfl, ?_⟩; conv => arg 4; whnf)
    refine ⟨fun hb => ?_, fun hb => ?_⟩
    · have hno : okC c = false := by
        unfold okC
        simp only [Bool.cond_true_left, Bool.cond_false_right, Bool.or_eq_true, Bool.and_eq_true, Bool.not_eq_true', decide_eq_true_eq, beq_iff_eq, bne_iff_ne, u8s_length, Bool.not_eq_true, gt_iff_lt, ge_iff_le] at hb
        simp
        omega
      have hnm : nm s = false := nm_no hc hno
      (conv => arg 4; whnf); repeat (refine ⟨rfl, ?_⟩; conv => arg 4; whnf)
      refine fin_ret ?_
      show holds _ _ _ _
      conv => arg 4; whnf
      rw [hnm]
      exact ⟨by decide, by (repeat' (first | with_reducible exact Le.refl _ _ | exact Le.bl | exact Le.lb | exact Le.nils | exact Le.nilsFull | exact Le.none | exact LeL.nil _ | refine LeL.cons ?_ ?_ | refine Le.tup ?_ | refine Le.agg ?_ | exact Le.refl _ _ | exact LeL.refl _ _)), trivial, (by (repeat' (first | with_reducible assumption | exact ClL.nil | exact Cl.int _ _ | exact Cl.bool _ | exact Cl.bl _ | exact Cl.bs _ | exact Cl.str _ | exact Cl.nils | exact Cl.nilp | exact Cl.rec _ | exact Cl.bat _ | exact Cl.recsV _ | exact Cl.strsV _ | exact Cl.intsV _ | exact Cl.req _ | exact Cl.rsp _ | exact Cl.reqA _ | exact Cl.rspA _ | exact Cl.batsV _ | exact Cl.prsV _ | exact Cl.atsV _ | exact Cl.entA _ _ | exact Cl.ent _ | exact Cl.rr _ _ | exact Cl.foundA _ | exact Cl.getB _ | exact Cl.encA _ | exact Cl.firstA _ | refine ClL.cons ?_ ?_ | refine Cl.tup ?_ | refine Cl.agg ?_ | exact ClO.RO _ _)) : Cl _) _, trivial⟩
    · have hyes : okC c = true := by
        unfold okC
        rw [← Bool.not_eq_true] at hb; simp only [Bool.cond_true_left, Bool.cond_false_right, Bool.or_eq_true, Bool.and_eq_true, Bool.not_eq_true', decide_eq_true_eq, beq_iff_eq, bne_iff_ne, u8s_length, gt_iff_lt, ge_iff_le] at hb
        simp
        omega
      (conv => arg 4; whnf); repeat (refine ⟨rfl, ?_⟩; conv => arg 4; whnf)
      exact ⟨⟨i + 1, by omega, by rw [htk, hyes]⟩, by show s.length - (i + 1) < s.length - i; omega, WkG.of rfl rfl ⟨Le.of_eq (succ_int (by omega)), Le.refl _ _, trivial⟩ trivial ⟨rfl, rfl, trivial⟩ trivial⟩
  · have h : i = s.length := by first | (rw [u8s_length] at h; simp at h; omega) | (simp at h; omega)
    rw [h, List.take_length] at ha
    conv => arg 4; whnf
    refine fin_exit ?_
    show holds _ _ _ _
    conv => arg 4; whnf
    have hnm : (bif decide ((s.length : Int) ≥ 1) then decide ((s.length : Int) ≤ 20) else false) = nm s := by
      unfold nm
      rw [ha, Bool.eq_iff_iff]
      simp
      omega
    rw [hnm]
    exact ⟨by decide, by (repeat' (first | with_reducible exact Le.refl _ _ | exact Le.bl | exact Le.lb | exact Le.nils | exact Le.nilsFull | exact Le.none | exact LeL.nil _ | refine LeL.cons ?_ ?_ | refine Le.tup ?_ | refine Le.agg ?_ | exact Le.refl _ _ | exact LeL.refl _ _)), trivial, (by (repeat' (first | with_reducible assumption | exact ClL.nil | exact Cl.int _ _ | exact Cl.bool _ | exact Cl.bl _ | exact Cl.bs _ | exact Cl.str _ | exact Cl.nils | exact Cl.nilp | exact Cl.rec _ | exact Cl.bat _ | exact Cl.recsV _ | exact Cl.strsV _ | exact Cl.intsV _ | exact Cl.req _ | exact Cl.rsp _ | exact Cl.reqA _ | exact Cl.rspA _ | exact Cl.batsV _ | exact Cl.prsV _ | exact Cl.atsV _ | exact Cl.entA _ _ | exact Cl.ent _ | exact Cl.rr _ _ | exact Cl.foundA _ | exact Cl.getB _ | exact Cl.encA _ | exact Cl.firstA _ | refine ClL.cons ?_ ?_ | refine Cl.tup ?_ | refine Cl.agg ?_ | exact ClO.RO _ _)) : Cl _) _, trivial⟩


def okT (x : Rw) : Bool := nm x.1 && decide (1 ≤ x.2 ∧ x.2 ≤ 20)
theorem tpMay {s : List UInt8} {p : Int} (hl : s.length ≤ 1000000) : CallOK Try.prog 67 [.str s, .int .i64 p] [] 0 (Out (.bool (okT (s, p))) [] 0) := by
  refine CallOK.fit (by decide) ?_
  refine callOK Try.call67 Try.func67 Try.ntmps67 rfl ?_
  conv => arg 4; whnf
  refine call0 (tpName hl) (by (repeat' (first | with_reducible assumption | exact ClL.nil | exact Cl.int _ _ | exact Cl.bool _ | exact Cl.bl _ | exact Cl.bs _ | exact Cl.str _ | exact Cl.nils | exact Cl.nilp | exact Cl.rec _ | exact Cl.bat _ | exact Cl.recsV _ | exact Cl.strsV _ | exact Cl.intsV _ | exact Cl.req _ | exact Cl.rsp _ | exact Cl.reqA _ | exact Cl.rspA _ | exact Cl.batsV _ | exact Cl.prsV _ | exact Cl.atsV _ | exact Cl.entA _ _ | exact Cl.ent _ | exact Cl.rr _ _ | exact Cl.foundA _ | exact Cl.getB _ | exact Cl.encA _ | exact Cl.firstA _ | refine ClL.cons ?_ ?_ | refine Cl.tup ?_ | refine Cl.agg ?_ | exact ClO.RO _ _))) (by (repeat' (first | with_reducible assumption | exact ClL.nil | exact Cl.int _ _ | exact Cl.bool _ | exact Cl.bl _ | exact Cl.bs _ | exact Cl.str _ | exact Cl.nils | exact Cl.nilp | exact Cl.rec _ | exact Cl.bat _ | exact Cl.recsV _ | exact Cl.strsV _ | exact Cl.intsV _ | exact Cl.req _ | exact Cl.rsp _ | exact Cl.reqA _ | exact Cl.rspA _ | exact Cl.batsV _ | exact Cl.prsV _ | exact Cl.atsV _ | exact Cl.entA _ _ | exact Cl.ent _ | exact Cl.rr _ _ | exact Cl.foundA _ | exact Cl.getB _ | exact Cl.encA _ | exact Cl.firstA _ | refine ClL.cons ?_ ?_ | refine Cl.tup ?_ | refine Cl.agg ?_ | exact ClO.RO _ _))) ?_
  (conv => arg 4; whnf); repeat (refine ⟨rfl, ?_⟩; conv => arg 4; whnf)
  have h : (bif (bif nm s then decide (p ≥ 1) else false) then decide (p ≤ 20) else false) = okT (s, p) := by
    unfold okT
    rw [Bool.eq_iff_iff]
    cases nm s <;> simp
  rw [h]
  exact ⟨by decide, by (repeat' (first | with_reducible exact Le.refl _ _ | exact Le.bl | exact Le.lb | exact Le.nils | exact Le.nilsFull | exact Le.none | exact LeL.nil _ | refine LeL.cons ?_ ?_ | refine Le.tup ?_ | refine Le.agg ?_ | exact Le.refl _ _ | exact LeL.refl _ _)), trivial, (by (repeat' (first | with_reducible assumption | exact ClL.nil | exact Cl.int _ _ | exact Cl.bool _ | exact Cl.bl _ | exact Cl.bs _ | exact Cl.str _ | exact Cl.nils | exact Cl.nilp | exact Cl.rec _ | exact Cl.bat _ | exact Cl.recsV _ | exact Cl.strsV _ | exact Cl.intsV _ | exact Cl.req _ | exact Cl.rsp _ | exact Cl.reqA _ | exact Cl.rspA _ | exact Cl.batsV _ | exact Cl.prsV _ | exact Cl.atsV _ | exact Cl.entA _ _ | exact Cl.ent _ | exact Cl.rr _ _ | exact Cl.foundA _ | exact Cl.getB _ | exact Cl.encA _ | exact Cl.firstA _ | refine ClL.cons ?_ ?_ | refine Cl.tup ?_ | refine Cl.agg ?_ | exact ClO.RO _ _)) : Cl _) _, trivial⟩
def goodR (l : List Rw) : Prop := ∀ x ∈ l, okT x = true
theorem goodR.fine {l : List Rw} (h : goodR l) : fineR l := fun x hx => by
  have h1 := h x hx
  unfold okT at h1
  simp only [Bool.and_eq_true, decide_eq_true_eq] at h1
  exact ⟨(nm_len h1.1).2, h1.2.1, h1.2.2⟩

theorem set_new {K : Type} [DecidableEq K] {k : K} {v : Int} : ∀ {m : List (K × Int)}, findM m k = none → setM m k v = m ++ [(k, v)]
  | [], _ => rfl
  | (a, x) :: r, h => by
    simp only [findM] at h
    have hne : k ≠ a := fun e => by rw [if_pos e] at h; cases h
    rw [if_neg hne] at h
    simp only [setM]
    rw [if_neg hne, set_new h]; rfl
theorem rows_drop {l : List Rw} {i : Nat} (h : i < l.length) : rowsB (l.drop i) = put l[i].1.length ++ l[i].1 ++ (put l[i].2 ++ rowsB (l.drop (i + 1))) := by
  unfold rowsB
  rw [List.drop_eq_getElem_cons h, List.flatMap_cons]
  simp only [rowB, List.append_assoc]
theorem rNm {n : Int} {r : List UInt8} (hn : I64 n) (hr : r.length ≤ 1000000) : CallOK Try.prog 22 [.ptr 0 0] [(0, RO (put n ++ r) 0)] 1 (Out (.int .i64 n) [(0, RO r 0)] 1) := by
  have hp := put_len hn
  have h := rNum (b := put n ++ r) (e := 0) (by rw [List.length_append]; omega)
  rw [numR_put hn r] at h
  exact h
theorem rTx {s r : List UInt8} (hs : s.length ≤ 20) (hr : r.length ≤ 1000000) : CallOK Try.prog 25 [.ptr 0 0, .int .i64 20] [(0, RO (put s.length ++ s ++ r) 0)] 1 (Out (.str s) [(0, RO r 0)] 1) := by
  have hp := put_len (n := (s.length : Int)) (by unfold I64; omega)
  have h := rText (b := put s.length ++ s ++ r) (e := 0) (most := 20) (by simp only [List.length_append]; omega)
  rw [bytesR_put (by omega) (by omega)] at h
  exact h
theorem find_take {l : List Rw} (hs : SrtR l) {i : Nat} (h : i < l.length) : findM (l.take i) l[i].1 = none := by
  cases e : findM (l.take i) l[i].1 with
  | none => rfl
  | some v =>
    have hm : l[i].1 ∈ (l.take i).map (·.1) := find_mem.1 (by rw [e]; simp)
    obtain ⟨y, hy, hye⟩ := List.mem_map.1 hm
    obtain ⟨j, hj⟩ := List.mem_iff_getElem?.1 hy
    rw [List.getElem?_take] at hj
    split at hj
    · rename_i hji
      have hjl : j < l.length := by omega
      have := List.pairwise_iff_getElem.1 hs j i hjl h hji
      rw [List.getElem?_eq_getElem hjl] at hj
      cases hj
      rw [hye, bl_irr] at this; cases this
    · cases hj
theorem set_take {l : List Rw} (hs : SrtR l) {i : Nat} (h : i < l.length) : setM (l.take i) l[i].1 l[i].2 = l.take (i + 1) := by
  rw [set_new (find_take hs h), List.take_add_one, List.getElem?_eq_getElem h]; rfl
structure DeI (l : List Rw) where
  i : Nat
  hi : i ≤ l.length
theorem decode {l : List Rw} (hs : SrtR l) (hg : goodR l) (hl : l.length ≤ 1000) : CallOK Try.prog 63 [bs (encR l)] [] 0 (Out (.map 0) [(0, .map (fE l))] 1) := by
  have hf := hg.fine
  have hel := encR_len hf hl
  refine CallOK.fit (by decide) ?_
  refine callOK Try.call63 Try.func63 Try.ntmps63 rfl ?_
  (conv => arg 4; whnf); repeat (refine ⟨rfl, ?_⟩; conv => arg 4; whnf)
  have hrl := rowsB_len hf
  refine callNew (newReader (b := put l.length ++ rowsB l) (by unfold encR at hel; omega)) (ClL.cons (Cl.bs _) ClL.nil) (ClO.RO _ _) ?_
  (conv => arg 4; whnf); repeat (refine ⟨rfl, ?_⟩; conv => arg 4; whnf)
  refine call1 1 (rNm (n := (l.length : Int)) (r := rowsB l) (by unfold I64; omega) (by omega)) rfl rfl (ClO.RO _ _) (ClO.RO _ _) rfl (Cl.int _ _) ?_
  (conv => arg 4; whnf); repeat (refine ⟨rfl, ?_⟩; conv => arg 4; whnf)
  refine tri_loopG (ι := DeI l) (fun x => ⟨[(5, .int .i64 ((l.length - x.i : Nat) : Int)), (4, .ptr 1 0), (3, .map 0)], [(1, RO (rowsB (l.drop x.i)) 0), (0, .map (fE (l.take x.i)))], 2, 35⟩) (fun x => l.length - x.i) ⟨0, Nat.zero_le _⟩ ?_ ?_
  · exact WkG.of rfl rfl ⟨Le.refl _ _, Le.refl _ _, Le.refl _ _, trivial⟩ ⟨⟨_, rfl, LeO.refl _ _⟩, ⟨_, rfl, LeO.refl _ _⟩, trivial⟩ ⟨rfl, rfl, rfl, trivial⟩ ⟨⟨by decide, ClO.RO _ _ _⟩, ⟨by decide, ClO.fE _ _⟩, trivial⟩
  rintro ⟨i, hi⟩
  dsimp only
  (conv => arg 4; whnf); repeat (refine ⟨rfl, ?_⟩; conv => arg 4; whnf)
  refine ⟨fun h => ?_, fun h => ?_⟩
  · have hlt : i < l.length := by simp at h; omega
    have hrd : (rowsB (l.drop (i + 1))).length ≤ 40 * (l.drop (i + 1)).length := rowsB_len fun y hy => hf y (List.mem_of_mem_drop hy)
    have hdl : (l.drop (i + 1)).length ≤ 1000 := by rw [List.length_drop]; omega
    have hfx := hf l[i] (List.getElem_mem hlt)
    have hgx := hg l[i] (List.getElem_mem hlt)
    have hp2 := put_len (n := l[i].2) (by unfold I64; omega)
    rw [rows_drop hlt]
    (conv => arg 4; whnf); repeat (refine ⟨rfl, ?_⟩; conv => arg 4; whnf)
    refine call1 1 (rTx (s := l[i].1) (r := put l[i].2 ++ rowsB (l.drop (i + 1))) hfx.1 (by rw [List.length_append]; omega)) rfl rfl (ClO.RO _ _) (ClO.RO _ _) rfl (Cl.str _) ?_
    (conv => arg 4; whnf); repeat (refine ⟨rfl, ?_⟩; conv => arg 4; whnf)
    refine call1 1 (rNm (n := l[i].2) (r := rowsB (l.drop (i + 1))) (by unfold I64; omega) (by omega)) rfl rfl (ClO.RO _ _) (ClO.RO _ _) rfl (Cl.int _ _) ?_
    (conv => arg 4; whnf); repeat (refine ⟨rfl, ?_⟩; conv => arg 4; whnf)
    refine call1 1 rErr rfl rfl (ClO.RO _ _) (ClO.RO _ _) rfl (Cl.int _ _) ?_
    (conv => arg 4; whnf); repeat (refine ⟨rfl, ?_⟩; conv => arg 4; whnf)
    refine ⟨fun h => absurd h (by first | (simp; done) | (simp [u8s]; done)), fun _ => ?_⟩
    conv => arg 4; whnf
    refine call0 (tpMay (s := l[i].1) (p := l[i].2) (by omega)) (by (repeat' (first | with_reducible assumption | exact ClL.nil | exact Cl.int _ _ | exact Cl.bool _ | exact Cl.bl _ | exact Cl.bs _ | exact Cl.str _ | exact Cl.nils | exact Cl.nilp | exact Cl.rec _ | exact Cl.bat _ | exact Cl.recsV _ | exact Cl.strsV _ | exact Cl.intsV _ | exact Cl.req _ | exact Cl.rsp _ | exact Cl.reqA _ | exact Cl.rspA _ | exact Cl.batsV _ | exact Cl.prsV _ | exact Cl.atsV _ | exact Cl.entA _ _ | exact Cl.ent _ | exact Cl.rr _ _ | exact Cl.foundA _ | exact Cl.getB _ | exact Cl.encA _ | exact Cl.firstA _ | refine ClL.cons ?_ ?_ | refine Cl.tup ?_ | refine Cl.agg ?_ | exact ClO.RO _ _))) (by (repeat' (first | with_reducible assumption | exact ClL.nil | exact Cl.int _ _ | exact Cl.bool _ | exact Cl.bl _ | exact Cl.bs _ | exact Cl.str _ | exact Cl.nils | exact Cl.nilp | exact Cl.rec _ | exact Cl.bat _ | exact Cl.recsV _ | exact Cl.strsV _ | exact Cl.intsV _ | exact Cl.req _ | exact Cl.rsp _ | exact Cl.reqA _ | exact Cl.rspA _ | exact Cl.batsV _ | exact Cl.prsV _ | exact Cl.atsV _ | exact Cl.entA _ _ | exact Cl.ent _ | exact Cl.rr _ _ | exact Cl.foundA _ | exact Cl.getB _ | exact Cl.encA _ | exact Cl.firstA _ | refine ClL.cons ?_ ?_ | refine Cl.tup ?_ | refine Cl.agg ?_ | exact ClO.RO _ _))) ?_
    (conv => arg 4; whnf); repeat (refine ⟨rfl, ?_⟩; conv => arg 4; whnf)
    refine ⟨fun h' => absurd h' (by show ¬ (!okT l[i]) = true; rw [hgx]; decide), fun _ => ?_⟩
    (conv => arg 4; whnf); repeat (refine ⟨rfl, ?_⟩; conv => arg 4; whnf)
    refine ⟨askF (l.take i) l[i].1, ?_⟩
    (conv => arg 4; whnf); repeat (refine ⟨rfl, ?_⟩; conv => arg 4; whnf)
    have hw : IntKind.i64.wrap (((l.length - i : Nat) : Int) - 1) = ((l.length - (i + 1) : Nat) : Int) := by rw [IntKind.wrap_i64]; omega
    refine ⟨⟨i + 1, hlt⟩, by show l.length - (i + 1) < l.length - i; omega, WkG.of rfl rfl ⟨Le.of_eq (congrArg (AV.int .i64) hw), Le.refl _ _, Le.refl _ _, trivial⟩ ⟨⟨_, rfl, LeO.refl _ _⟩, ⟨_, rfl, ?_⟩, trivial⟩ ⟨rfl, rfl, rfl, trivial⟩ ⟨⟨by decide, ClO.RO _ _ _⟩, ⟨by decide, ClO.fE _ _⟩, trivial⟩⟩
    show setE (fE (l.take i)) (.str l[i].1) (.int .i64 l[i].2) = fE (l.take (i + 1))
    rw [set_fE, set_take hs hlt]
  · have hlt : i = l.length := by simp at h; omega
    (conv => arg 4; whnf); repeat (refine ⟨rfl, ?_⟩; conv => arg 4; whnf)
    refine fin_exit ?_
    show holds _ _ _ _
    conv => arg 4; whnf
    refine ⟨by decide, Le.refl _ _, ⟨⟨_, rfl, ?_⟩, trivial⟩, rfl, ⟨⟨by decide, ClO.fE _ _⟩, trivial⟩⟩
    rw [hlt, List.take_length]; exact LeO.refl _ _
end Go.Proofs.Ytlcanameloklbaa.Tp

namespace Go.Proofs.Ytlcanameloklbaa.Tp
set_option maxRecDepth 100000
set_option maxHeartbeats 80000000
open Go.Sym

def tN : List UInt8 := [116, 111, 112, 105, 99, 115]
def sN : List UInt8 := [116, 111, 112, 105, 99, 115, 46, 115, 119, 97, 112]
/-- The disk's names: none, or the topics' file, by a name f. -/
def nowE (f : Nat) : Option (List UInt8) → List (AV × AV)
  | none => []
  | some _ => [(.str tN, .ptr f 0)]
def fileH (f : Nat) : Option (List UInt8) → Heap
  | none => []
  | some b => [(f, .cells [bs b, .int .i64 b.length])]
def usedF : Option (List UInt8) → Nat
  | none => 0
  | some b => b.length
abbrev dkO (nw sf : Nat) (room lf op : Int) : AObj := .cells [.int .i64 room, .map nw, .map sf, .nils, .bl false, .bl false, .int .i64 lf, .int .i64 op]
abbrev DK (fs : Option (List UInt8)) (room lf op : Int) : Heap := (2, dkO 0 1 room lf op) :: (1, .map (nowE 3 fs)) :: (0, .map (nowE 3 fs)) :: fileH 3 fs

theorem dNew {room : Int} (h : 0 ≤ room ∧ room ≤ 1099511627776) : CallOK Try.prog 33 [.int .i64 room] [] 0 (Out (.tup [.ptr 2 0, .int .i64 0]) [(2, dkO 0 1 room 0 0), (1, .map []), (0, .map [])] 3) := by
  refine callOK Try.call33 Try.func33 Try.ntmps33 rfl ?_
  (conv => arg 4; whnf); repeat (refine ⟨rfl, ?_⟩; conv => arg 4; whnf)
  refine ⟨fun h' => absurd h' (by simp; omega), fun _ => ?_⟩
  (conv => arg 4; whnf); repeat (refine ⟨rfl, ?_⟩; conv => arg 4; whnf)
  exact ⟨rfl, rfl, rfl⟩

theorem askS {es : List (AV × AV)} (k : List UInt8) (h : ∀ e ∈ es, ∃ s, e.1 = .str s) : mapAsk Try.prog 9 es (.str k) :=
  ⟨⟨by decide +kernel, by decide +kernel⟩, rfl, fun e he => by
    obtain ⟨s, hs⟩ := h e he
    rw [hs]
    rfl⟩
theorem askN (k : List UInt8) : mapAsk Try.prog 9 [] (.str k) := askS k fun e he => by cases he
theorem ask1 (k s : List UInt8) (v : AV) : mapAsk Try.prog 9 [(.str s, v)] (.str k) := askS k fun e he => by
  rw [List.mem_singleton.1 he]; exact ⟨s, rfl⟩
theorem ask2 (k s s' : List UInt8) (v v' : AV) : mapAsk Try.prog 9 [(.str s, v), (.str s', v')] (.str k) := askS k fun e he => by
  rcases List.mem_cons.1 he with rfl | he
  · exact ⟨s, rfl⟩
  · rw [List.mem_singleton.1 he]; exact ⟨s', rfl⟩

def dec (n : Int) : Int := IntKind.i64.wrap (n - 1)
def inc (n : Int) : Int := IntKind.i64.wrap (n + 1)
abbrev dkA (A : AV) (nw sf : Nat) (room lf op : Int) : AObj := .cells [.int .i64 room, .map nw, .map sf, A, .bl false, .bl false, .int .i64 lf, .int .i64 op]
structure AkI (ns : List (List UInt8)) where
  i : Nat
  hi : i ≤ ns.length
theorem renA5 {A : AV} {room lf op : Int} {m : Nat} (hA : ∀ m, ren (cut 5 m) A = A) : renO (cut 5 m) (dkA A 0 1 room lf op) = dkA A 0 1 room lf op := by
  show AObj.cells (ren _ (.int .i64 room) :: ren _ (.map 0) :: ren _ (.map 1) :: ren (cut 5 m) A :: _) = _
  rw [hA]
  rfl
theorem dMay {s : List UInt8} (h : 1 ≤ s.length ∧ s.length ≤ 100) : CallOK Try.prog 98 [.str s] [] 0 (Out (.bool true) [] 0) := by
  refine CallOK.fit (by decide) ?_
  refine callOK Try.call98 Try.func98 Try.ntmps98 rfl ?_
  (conv => arg 4; whnf); repeat (refine ⟨rfl, ?_⟩; conv => arg 4; whnf)
  refine ⟨by decide, Le.of_eq (congrArg AV.bool ?_), trivial, (Cl.bool _) _, trivial⟩
  rw [Bool.eq_iff_iff]
  simp
  omega
theorem dAskedN {ns : List (List UInt8)} {room lf op : Int} (hn : ∀ s ∈ ns, 1 ≤ s.length ∧ s.length ≤ 100) (hl : ns.length ≤ 10) :
    CallOK Try.prog 89 [.ptr 2 0, .sl .none 0 (strsA ns)] [(2, dkA .nils 0 1 room lf op)] 5 (Out (.int .i64 0) [(2, dkA .nils 0 1 room (dec lf) (inc op))] 5) := by
  refine CallOK.fit (by decide) ?_
  refine callOK Try.call89 Try.func89 Try.ntmps89 rfl ?_
  (conv => arg 4; whnf); repeat (refine ⟨rfl, ?_⟩; conv => arg 4; whnf)
  refine tri_loopG (ι := AkI ns) (fun x => ⟨[(56, .int .i64 x.i), (55, .int .i64 ns.length), (54, .sl .none 0 (strsA ns))], [(2, dkA .nils 0 1 room (dec lf) (inc op))], 5, 64⟩) (fun x => ns.length - x.i) ⟨0, Nat.zero_le _⟩ (WkG.of rfl rfl ⟨Le.refl _ _, Le.of_eq (congrArg (AV.int .i64) (by rw [strs_len])), Le.refl _ _, trivial⟩ ⟨⟨_, rfl, LeO.refl _ _⟩, trivial⟩ ⟨rfl, rfl, Cl.keys _ _, trivial⟩ ⟨⟨by decide, rfl⟩, trivial⟩) ?_
  rintro ⟨i, hi⟩
  dsimp only
  (conv => arg 4; whnf); repeat (refine ⟨rfl, ?_⟩; conv => arg 4; whnf)
  refine ⟨fun h => ?_, fun h => ?_⟩
  · have hlt : i < ns.length := by simp at h; omega
    (conv => arg 4; whnf); repeat (refine ⟨rfl, ?_⟩; conv => arg 4; whnf)
    refine ⟨.str ns[i], ⟨by omega, by simp [strsA, hlt]⟩, ?_⟩
    (conv => arg 4; whnf); repeat (refine ⟨rfl, ?_⟩; conv => arg 4; whnf)
    refine call0 (dMay (s := ns[i]) (hn _ (List.getElem_mem hlt))) (by (repeat' (first | with_reducible assumption | exact ClL.nil | exact Cl.int _ _ | exact Cl.bool _ | exact Cl.bl _ | exact Cl.bs _ | exact Cl.str _ | exact Cl.nils | exact Cl.nilp | exact Cl.rec _ | exact Cl.bat _ | exact Cl.recsV _ | exact Cl.strsV _ | exact Cl.intsV _ | exact Cl.req _ | exact Cl.rsp _ | exact Cl.reqA _ | exact Cl.rspA _ | exact Cl.batsV _ | exact Cl.prsV _ | exact Cl.atsV _ | exact Cl.entA _ _ | exact Cl.ent _ | exact Cl.rr _ _ | exact Cl.foundA _ | exact Cl.getB _ | exact Cl.encA _ | exact Cl.firstA _ | refine ClL.cons ?_ ?_ | refine Cl.tup ?_ | refine Cl.agg ?_ | exact ClO.RO _ _))) (by (repeat' (first | with_reducible assumption | exact ClL.nil | exact Cl.int _ _ | exact Cl.bool _ | exact Cl.bl _ | exact Cl.bs _ | exact Cl.str _ | exact Cl.nils | exact Cl.nilp | exact Cl.rec _ | exact Cl.bat _ | exact Cl.recsV _ | exact Cl.strsV _ | exact Cl.intsV _ | exact Cl.req _ | exact Cl.rsp _ | exact Cl.reqA _ | exact Cl.rspA _ | exact Cl.batsV _ | exact Cl.prsV _ | exact Cl.atsV _ | exact Cl.entA _ _ | exact Cl.ent _ | exact Cl.rr _ _ | exact Cl.foundA _ | exact Cl.getB _ | exact Cl.encA _ | exact Cl.firstA _ | refine ClL.cons ?_ ?_ | refine Cl.tup ?_ | refine Cl.agg ?_ | exact ClO.RO _ _))) ?_
    (conv => arg 4; whnf); repeat (refine ⟨rfl, ?_⟩; conv => arg 4; whnf)
    refine ⟨fun h => absurd h (by first | (simp; done) | (simp [u8s]; done)), fun _ => ?_⟩
    conv => arg 4; whnf
    exact ⟨⟨i + 1, hlt⟩, by show ns.length - (i + 1) < ns.length - i; omega, WkG.of rfl rfl ⟨Le.of_eq (succ_int (by omega)), Le.refl _ _, Le.refl _ _, trivial⟩ ⟨⟨_, rfl, LeO.refl _ _⟩, trivial⟩ ⟨rfl, rfl, Cl.keys _ _, trivial⟩ ⟨⟨by decide, rfl⟩, trivial⟩⟩
  · (conv => arg 4; whnf); repeat (refine ⟨rfl, ?_⟩; conv => arg 4; whnf)
    refine fin_exit ?_
    show holds _ _ _ _
    conv => arg 4; whnf
    exact ⟨by decide, Le.refl _ _, ⟨⟨_, rfl, LeO.refl _ _⟩, trivial⟩, (Cl.int _ _) _, ⟨⟨by decide, rfl⟩, trivial⟩⟩
theorem dAskedS {s : Nat} {els : List AV} {ns : List (List UInt8)} {room lf op : Int} (hA : ∀ m, ren (cut 5 m) (.sl (.tok 4 s) 3 els) = .sl (.tok 4 s) 3 els) (hn : ∀ s ∈ ns, 1 ≤ s.length ∧ s.length ≤ 100) (hl : ns.length ≤ 10) :
    CallOK Try.prog 89 [.ptr 2 0, .sl .none 0 (strsA ns)] [(2, dkA (.sl (.tok 4 s) 3 els) 0 1 room lf op), (4, .tip s)] 5 (Out (.int .i64 0) [(2, dkA (.sl (.tok 4 s) 3 els) 0 1 room (dec lf) (inc op)), (4, .tip s)] 5) := by
  refine CallOK.fit (by decide) ?_
  refine callOK Try.call89 Try.func89 Try.ntmps89 rfl ?_
  (conv => arg 4; whnf); repeat (refine ⟨rfl, ?_⟩; conv => arg 4; whnf)
  refine tri_loopG (ι := AkI ns) (fun x => ⟨[(56, .int .i64 x.i), (55, .int .i64 ns.length), (54, .sl .none 0 (strsA ns))], [(2, dkA (.sl (.tok 4 s) 3 els) 0 1 room (dec lf) (inc op)), (4, .tip s)], 5, 64⟩) (fun x => ns.length - x.i) ⟨0, Nat.zero_le _⟩ (WkG.of rfl rfl ⟨Le.refl _ _, Le.of_eq (congrArg (AV.int .i64) (by rw [strs_len])), Le.refl _ _, trivial⟩ ⟨⟨_, rfl, LeO.refl _ _⟩, ⟨_, rfl, LeO.refl _ _⟩, trivial⟩ ⟨rfl, rfl, Cl.keys _ _, trivial⟩ ⟨⟨by decide, renA5 hA⟩, ⟨by decide, rfl⟩, trivial⟩) ?_
  rintro ⟨i, hi⟩
  dsimp only
  (conv => arg 4; whnf); repeat (refine ⟨rfl, ?_⟩; conv => arg 4; whnf)
  refine ⟨fun h => ?_, fun h => ?_⟩
  · have hlt : i < ns.length := by simp at h; omega
    (conv => arg 4; whnf); repeat (refine ⟨rfl, ?_⟩; conv => arg 4; whnf)
    refine ⟨.str ns[i], ⟨by omega, by simp [strsA, hlt]⟩, ?_⟩
    (conv => arg 4; whnf); repeat (refine ⟨rfl, ?_⟩; conv => arg 4; whnf)
    refine call0 (dMay (s := ns[i]) (hn _ (List.getElem_mem hlt))) (by (repeat' (first | with_reducible assumption | exact ClL.nil | exact Cl.int _ _ | exact Cl.bool _ | exact Cl.bl _ | exact Cl.bs _ | exact Cl.str _ | exact Cl.nils | exact Cl.nilp | exact Cl.rec _ | exact Cl.bat _ | exact Cl.recsV _ | exact Cl.strsV _ | exact Cl.intsV _ | exact Cl.req _ | exact Cl.rsp _ | exact Cl.reqA _ | exact Cl.rspA _ | exact Cl.batsV _ | exact Cl.prsV _ | exact Cl.atsV _ | exact Cl.entA _ _ | exact Cl.ent _ | exact Cl.rr _ _ | exact Cl.foundA _ | exact Cl.getB _ | exact Cl.encA _ | exact Cl.firstA _ | refine ClL.cons ?_ ?_ | refine Cl.tup ?_ | refine Cl.agg ?_ | exact ClO.RO _ _))) (by (repeat' (first | with_reducible assumption | exact ClL.nil | exact Cl.int _ _ | exact Cl.bool _ | exact Cl.bl _ | exact Cl.bs _ | exact Cl.str _ | exact Cl.nils | exact Cl.nilp | exact Cl.rec _ | exact Cl.bat _ | exact Cl.recsV _ | exact Cl.strsV _ | exact Cl.intsV _ | exact Cl.req _ | exact Cl.rsp _ | exact Cl.reqA _ | exact Cl.rspA _ | exact Cl.batsV _ | exact Cl.prsV _ | exact Cl.atsV _ | exact Cl.entA _ _ | exact Cl.ent _ | exact Cl.rr _ _ | exact Cl.foundA _ | exact Cl.getB _ | exact Cl.encA _ | exact Cl.firstA _ | refine ClL.cons ?_ ?_ | refine Cl.tup ?_ | refine Cl.agg ?_ | exact ClO.RO _ _))) ?_
    (conv => arg 4; whnf); repeat (refine ⟨rfl, ?_⟩; conv => arg 4; whnf)
    refine ⟨fun h => absurd h (by first | (simp; done) | (simp [u8s]; done)), fun _ => ?_⟩
    conv => arg 4; whnf
    exact ⟨⟨i + 1, hlt⟩, by show ns.length - (i + 1) < ns.length - i; omega, WkG.of rfl rfl ⟨Le.of_eq (succ_int (by omega)), Le.refl _ _, Le.refl _ _, trivial⟩ ⟨⟨_, rfl, LeO.refl _ _⟩, ⟨_, rfl, LeO.refl _ _⟩, trivial⟩ ⟨rfl, rfl, Cl.keys _ _, trivial⟩ ⟨⟨by decide, renA5 hA⟩, ⟨by decide, rfl⟩, trivial⟩⟩
  · (conv => arg 4; whnf); repeat (refine ⟨rfl, ?_⟩; conv => arg 4; whnf)
    refine fin_exit ?_
    show holds _ _ _ _
    conv => arg 4; whnf
    exact ⟨by decide, Le.refl _ _, ⟨⟨_, rfl, LeO.refl _ _⟩, ⟨_, rfl, LeO.refl _ _⟩, trivial⟩, (Cl.int _ _) _, ⟨⟨by decide, renA5 hA⟩, ⟨by decide, rfl⟩, trivial⟩⟩
abbrev tbO (dk m : Nat) : AObj := .cells [.ptr dk 0, .map m, .bl false]
/-- A table on its disk. -/
abbrev TT (m : List Rw) (fs : Option (List UInt8)) (room lf op : Int) : Heap := (5, tbO 2 4) :: (4, .map (fE m)) :: DK fs room lf op
end Go.Proofs.Ytlcanameloklbaa.Tp

namespace Go.Proofs.Ytlcanameloklbaa.Tp
set_option maxRecDepth 100000
set_option maxHeartbeats 80000000
open Go.Sym

theorem ClO.fil (b : List UInt8) : ClO (.cells [bs b, .int .i64 b.length]) := ClO.cells (ClL.cons (Cl.bs _) (ClL.cons (Cl.int _ _) ClL.nil))
theorem dUsed0 {room lf op : Int} : CallOK Try.prog 99 [.ptr 2 0] [(2, dkO 0 1 room lf op), (0, .map [])] 5 (Out (.int .i64 0) [(2, dkO 0 1 room lf op), (0, .map [])] 5) := by
  refine CallOK.fit (by decide) ?_
  refine callOK Try.call99 Try.func99 Try.ntmps99 rfl ?_
  (conv => arg 4; whnf); repeat (refine ⟨rfl, ?_⟩; conv => arg 4; whnf)
  intro bs c h1 h2 h3
  have hb : bs = [] := List.eq_nil_of_length_eq_zero h1
  subst hb
  (conv => arg 4; whnf); repeat (refine ⟨rfl, ?_⟩; conv => arg 4; whnf)
  refine tri_loopG (ι := Unit) (fun _ => ⟨[(11, .ptr 5 0), (2, .int .i64 0)], [(5, .iter 0 c [] c), (2, dkO 0 1 room lf op), (0, .mapN [] [] c)], 6, 24⟩) (fun _ => 0) () (WkG.of rfl rfl ⟨Le.refl _ _, Le.refl _ _, trivial⟩ ⟨⟨_, rfl, LeO.refl _ _⟩, ⟨_, rfl, LeO.refl _ _⟩, ⟨_, rfl, LeO.refl _ _⟩, trivial⟩ ⟨rfl, rfl, trivial⟩ ⟨⟨by decide, rfl⟩, ⟨by decide, rfl⟩, ⟨by decide, rfl⟩, trivial⟩) ?_
  intro _
  conv => arg 4; whnf
  refine ⟨⟨h2, .inl rfl⟩, fun i n kv hi hkv hn => ?_, fun hall => ?_⟩
  · simp at hi
  · (conv => arg 4; whnf); repeat (refine ⟨rfl, ?_⟩; conv => arg 4; whnf)
    refine fin_exit ?_
    show holds _ _ _ _
    conv => arg 4; whnf
    exact ⟨by decide, Le.refl _ _, ⟨⟨_, rfl, LeO.refl _ _⟩, ⟨_, rfl, rfl⟩, trivial⟩, (Cl.int _ _) _, ⟨⟨by decide, rfl⟩, ⟨by decide, rfl⟩, trivial⟩⟩
theorem dUsed1 {b : List UInt8} {room lf op : Int} (hb : b.length ≤ 100000) : CallOK Try.prog 99 [.ptr 2 0] [(2, dkO 0 1 room lf op), (0, .map [(.str tN, .ptr 3 0)]), (3, .cells [bs b, .int .i64 b.length])] 5 (Out (.int .i64 b.length) [(2, dkO 0 1 room lf op), (0, .map [(.str tN, .ptr 3 0)]), (3, .cells [bs b, .int .i64 b.length])] 5) := by
  refine CallOK.fit (by decide) ?_
  refine callOK Try.call99 Try.func99 Try.ntmps99 rfl ?_
  (conv => arg 4; whnf); repeat (refine ⟨rfl, ?_⟩; conv => arg 4; whnf)
  intro bs c h1 h2 h3
  obtain ⟨n0, hn0⟩ : ∃ n0, bs = [n0] := by
    match bs, h1 with
    | [n0], _ => exact ⟨n0, rfl⟩
  subst hn0
  (conv => arg 4; whnf); repeat (refine ⟨rfl, ?_⟩; conv => arg 4; whnf)
  refine tri_loopG (ι := Bool) (fun d => ⟨[(11, .ptr 5 0), (2, .int .i64 (if d then (b.length : Int) else 0))], [(5, .iter 0 c (if d then [n0] else []) c), (2, dkO 0 1 room lf op), (0, .mapN [(.str tN, .ptr 3 0)] [n0] c), (3, .cells [bs b, .int .i64 b.length])], 6, 24⟩) (fun d => if d then 0 else 1) false (WkG.of rfl rfl ⟨Le.refl _ _, Le.refl _ _, trivial⟩ ⟨⟨_, rfl, LeO.refl _ _⟩, ⟨_, rfl, LeO.refl _ _⟩, ⟨_, rfl, LeO.refl _ _⟩, ⟨_, rfl, LeO.refl _ _⟩, trivial⟩ ⟨rfl, rfl, trivial⟩ ⟨⟨by decide, rfl⟩, ⟨by decide, rfl⟩, ⟨by decide, rfl⟩, ⟨by decide, ClO.fil _ _⟩, trivial⟩) ?_
  intro d
  cases d with
  | false =>
    conv => arg 4; whnf
    refine ⟨⟨h2, .inr (.inr ⟨n0, List.mem_cons_self, h2 n0 List.mem_cons_self⟩)⟩, fun i n kv hi hkv hn => ?_, fun hall => ?_⟩
    · obtain rfl : i = 0 := by
        rcases i with _ | i
        · rfl
        · simp at hi
      have hkv : (AV.str tN, AV.ptr 3 0) = kv := by simpa using hkv
      subst hkv
      have hi : n0 = n := by simpa using hi
      subst hi
      (conv => arg 4; whnf); repeat (refine ⟨rfl, ?_⟩; conv => arg 4; whnf)
      refine ⟨0, _, rfl, rfl, ?_⟩
      (conv => arg 4; whnf); repeat (refine ⟨rfl, ?_⟩; conv => arg 4; whnf)
      have hw : IntKind.i64.wrap ((0 : Int) + ((u8s b).length : Int)) = (b.length : Int) := by rw [u8s_length, IntKind.wrap_i64]; omega
      exact ⟨true, by decide, WkG.of rfl rfl ⟨Le.refl _ _, Le.of_eq (congrArg (AV.int .i64) hw), trivial⟩ ⟨⟨_, rfl, LeO.refl _ _⟩, ⟨_, rfl, LeO.refl _ _⟩, ⟨_, rfl, LeO.refl _ _⟩, ⟨_, rfl, LeO.refl _ _⟩, trivial⟩ ⟨rfl, rfl, trivial⟩ ⟨⟨by decide, rfl⟩, ⟨by decide, rfl⟩, ⟨by decide, rfl⟩, ⟨by decide, ClO.fil _ _⟩, trivial⟩⟩
    · exact absurd (hall n0 List.mem_cons_self) (by simp)
  | true =>
    conv => arg 4; whnf
    refine ⟨⟨h2, .inr (.inr ⟨n0, List.mem_cons_self, h2 n0 List.mem_cons_self⟩)⟩, fun i n kv hi hkv hn => ?_, fun hall => ?_⟩
    · exact absurd (List.mem_of_getElem? hi) hn
    · (conv => arg 4; whnf); repeat (refine ⟨rfl, ?_⟩; conv => arg 4; whnf)
      refine fin_exit ?_
      show holds _ _ _ _
      conv => arg 4; whnf
      exact ⟨by decide, Le.refl _ _, ⟨⟨_, rfl, LeO.refl _ _⟩, ⟨_, rfl, rfl⟩, ⟨_, rfl, LeO.refl _ _⟩, trivial⟩, (Cl.int _ _) _, ⟨⟨by decide, rfl⟩, ⟨by decide, rfl⟩, ⟨by decide, ClO.fil _ _⟩, trivial⟩⟩
end Go.Proofs.Ytlcanameloklbaa.Tp

namespace Go.Proofs.Ytlcanameloklbaa.Tp
set_option maxRecDepth 100000
set_option maxHeartbeats 80000000
open Go.Sym

def cloneRenI : Go.Shelf.Ren := ⟨fun n => match n with | 5 => 68 | 7 => 83 | n => n, fun n => match n with | 23 => 105 | 25 => 9 | 3 => 3 | 20 => 20 | n => n, fun n => n⟩

theorem cloneLaysI : SlLaysW.n5 Try.prog cloneRenI where
  mixed := rfl
  f5 := ⟨"maps.Clone[map[string]int,string,int]", by decide, Try.func68⟩
  f7 := Try.func83
  t4 := Try.underlying4
  a4 := Try.isAgg4
  z4 := Try.sizeOf4
  v4 := Try.zeroValue4
  t20 := Try.underlying20
  a20 := Try.isAgg20
  z20 := Try.sizeOf20
  v20 := Try.zeroValue20
  t23 := Try.underlying105
  a23 := Try.isAgg105
  z23 := Try.sizeOf105
  v23 := Try.zeroValue105

theorem mapsCloneI {es : List (AV × AV)} {k : Nat} : CallOK Try.prog 68 [.map 0] [(0, .map es)] (k + 1) (Out (.map (k + 1)) [(k + 1, .map es), (0, .map es)] (k + 2)) := by
  refine ⟨Try.call68, fun F V w vs i hf hr => ?_⟩
  obtain ⟨b, xs, clock, hv, hh, h1, h2, h3, h4⟩ := i.objs 0 _ rfl
  have hvs : vs.toArray = #[.map (some b)] := by
    simp only [repL, rep] at hr
    obtain ⟨x, r, rfl, ⟨b', hb', rfl⟩, rfl⟩ := hr
    rw [hv] at hb'
    cases hb'
    rfl
  rw [hvs]
  refine (AnyW.maps_Clone cloneLaysI b xs clock w hh).mono ?_
  rintro e w' ⟨rfl, rfl⟩
  have hV : V.le (V.addObj (k + 1) w.heap.size) := View.le_addObj (hf (k + 1) (Nat.le_refl _)).1
  obtain ⟨i2, s2, f2⟩ := i.newObj (nx := k + 1) (ob := .map es) (o := .map xs clock) hf (by simp [own, View.addObj]) ⟨w.heap.size, xs, clock, by simp [View.addObj], heap_new w _, h1.mono (.refl F) hV, h2.mono (.refl F) hV, h3, h4⟩
  exact ⟨_, F, _, .map (k + 1), _, k + 2, rfl, s2, i2, f2, by simp only [rep, View.addObj]; exact ⟨w.heap.size, by simp, rfl⟩, rfl, rfl, rfl⟩
def cloneRenF : Go.Shelf.Ren := ⟨fun n => match n with | 5 => 71 | 7 => 83 | n => n, fun n => match n with | 23 => 101 | 25 => 9 | 3 => 122 | 20 => 20 | n => n, fun n => n⟩

theorem cloneLaysF : SlLaysW.n5 Try.prog cloneRenF where
  mixed := rfl
  f5 := ⟨"maps.Clone[map[string]*cordwain/disk.file,string,*cordwain/disk.file]", by decide, Try.func71⟩
  f7 := Try.func83
  t4 := Try.underlying4
  a4 := Try.isAgg4
  z4 := Try.sizeOf4
  v4 := Try.zeroValue4
  t20 := Try.underlying20
  a20 := Try.isAgg20
  z20 := Try.sizeOf20
  v20 := Try.zeroValue20
  t23 := Try.underlying101
  a23 := Try.isAgg101
  z23 := Try.sizeOf101
  v23 := Try.zeroValue101

theorem mapsCloneF {es : List (AV × AV)} {k : Nat} : CallOK Try.prog 71 [.map 0] [(0, .map es)] (k + 1) (Out (.map (k + 1)) [(k + 1, .map es), (0, .map es)] (k + 2)) := by
  refine ⟨Try.call71, fun F V w vs i hf hr => ?_⟩
  obtain ⟨b, xs, clock, hv, hh, h1, h2, h3, h4⟩ := i.objs 0 _ rfl
  have hvs : vs.toArray = #[.map (some b)] := by
    simp only [repL, rep] at hr
    obtain ⟨x, r, rfl, ⟨b', hb', rfl⟩, rfl⟩ := hr
    rw [hv] at hb'
    cases hb'
    rfl
  rw [hvs]
  refine (AnyW.maps_Clone cloneLaysF b xs clock w hh).mono ?_
  rintro e w' ⟨rfl, rfl⟩
  have hV : V.le (V.addObj (k + 1) w.heap.size) := View.le_addObj (hf (k + 1) (Nat.le_refl _)).1
  obtain ⟨i2, s2, f2⟩ := i.newObj (nx := k + 1) (ob := .map es) (o := .map xs clock) hf (by simp [own, View.addObj]) ⟨w.heap.size, xs, clock, by simp [View.addObj], heap_new w _, h1.mono (.refl F) hV, h2.mono (.refl F) hV, h3, h4⟩
  exact ⟨_, F, _, .map (k + 1), _, k + 2, rfl, s2, i2, f2, by simp only [rep, View.addObj]; exact ⟨w.heap.size, by simp, rfl⟩, rfl, rfl, rfl⟩
end Go.Proofs.Ytlcanameloklbaa.Tp

namespace Go.Proofs.Ytlcanameloklbaa.Tp
set_option maxRecDepth 100000
set_option maxHeartbeats 80000000
open Go.Sym

structure LO where
  lf : Int
  op : Int
/-- Kept: the new table, and what was safe is it. -/
abbrev T6 (m : List Rw) (b : List UInt8) (room lf op : Int) : Heap := [(5, tbO 2 6), (6, .map (fE m)), (2, dkO 0 8 room lf op), (0, .map [(.str tN, .ptr 7 0)]), (8, .map [(.str tN, .ptr 7 0)]), (7, .cells [bs b, .int .i64 b.length])]
theorem sN_ok : ∀ s ∈ [sN], 1 ≤ s.length ∧ s.length ≤ 100 := by decide

theorem tsN_ok : ∀ s ∈ [tN, sN], 1 ≤ s.length ∧ s.length ≤ 100 := by decide
theorem keeps0 {l m m0 : List Rw} {room lf op : Int} (r : RelT l m) (hg : goodR l) (hl : l.length ≤ 1000) (hroom : ((encR l).length : Int) ≤ room ∧ room ≤ 1099511627776) :
    CallOK Try.prog 69 [.ptr 5 0, .map 6] ((6, .map (fE m)) :: TT m0 none room lf op) 7 (fun a h n => ∃ x : LO, True ∧ Out (.int .i64 0) (T6 m (encR l) room x.lf x.op) 9 a h n) := by
  have hel := encR_len hg.fine hl
  refine CallOK.fit2E ?_
  refine callOK Try.call69 Try.func69 Try.ntmps69 rfl ?_
  (conv => arg 4; whnf); repeat (refine ⟨rfl, ?_⟩; conv => arg 4; whnf)
  refine callG [6] (bs (encR l)) ((6, .map (fE m)) :: TT m0 none room lf op) (encode r hg.fine hl) rfl ⟨⟨by simp, by rw [ClO.fE]; rfl⟩, trivial⟩ rfl (Le.cl (Cl.bs _)) ⟨⟨_, rfl, LeO.cl (ClO.fE _)⟩, ⟨_, rfl, LeO.refl _ _⟩, ⟨_, rfl, LeO.refl _ _⟩, ⟨_, rfl, LeO.refl _ _⟩, ⟨_, rfl, LeO.refl _ _⟩, ⟨_, rfl, LeO.refl _ _⟩, trivial⟩ ?_
  (conv => arg 4; whnf); repeat (refine ⟨rfl, ?_⟩; conv => arg 4; whnf)
  refine callOK Try.call84 Try.func84 Try.ntmps84 rfl ?_
  (conv => arg 4; whnf); repeat (refine ⟨rfl, ?_⟩; conv => arg 4; whnf)
  refine callOK Try.call60 Try.func60 Try.ntmps60 rfl ?_
  (conv => arg 4; whnf); repeat (refine ⟨rfl, ?_⟩; conv => arg 4; whnf)
  refine nth_in .nilp ⟨by decide, rfl⟩ ?_
  (conv => arg 4; whnf); repeat (refine ⟨rfl, ?_⟩; conv => arg 4; whnf)
  refine need_in (askN _) ?_
  (conv => arg 4; whnf); repeat (refine ⟨rfl, ?_⟩; conv => arg 4; whnf)
  refine ret_in ?_
  show holds _ _ _ _
  conv => arg 4; whnf
  refine br_no (by decide) ?_
  (conv => arg 4; whnf); repeat (refine ⟨rfl, ?_⟩; conv => arg 4; whnf)
  refine callOK Try.call91 Try.func91 Try.ntmps91 rfl ?_
  (conv => arg 4; whnf); repeat (refine ⟨rfl, ?_⟩; conv => arg 4; whnf)
  refine holds_args (args' := [.ptr 2 0, .sl .none 0 (strsA [sN])]) ⟨Le.refl _ _, Le.none, trivial⟩ ?_
  refine callG2 [0, 1, 2, 3, 4] (.int .i64 0) [(6, .map (fE m)), (5, tbO 2 4), (4, .map (fE m0)), (2, dkO 0 1 room (dec lf) (inc op)), (1, .map []), (0, .map [])] (dAskedN sN_ok (by decide)) rfl ⟨⟨by simp, rfl⟩, trivial⟩ rfl (Le.refl _ _) ⟨⟨_, rfl, LeO.refl _ _⟩, ⟨_, rfl, LeO.refl _ _⟩, ⟨_, rfl, LeO.refl _ _⟩, ⟨_, rfl, LeO.refl _ _⟩, ⟨_, rfl, LeO.refl _ _⟩, ⟨_, rfl, LeO.refl _ _⟩, trivial⟩ ?_
  (conv => arg 4; whnf); repeat (refine ⟨rfl, ?_⟩; conv => arg 4; whnf)
  refine br_no (by decide) ?_
  (conv => arg 4; whnf); repeat (refine ⟨rfl, ?_⟩; conv => arg 4; whnf)
  refine callG2 [0, 1, 2, 3, 4] (.int .i64 0) [(6, .map (fE m)), (5, tbO 2 4), (4, .map (fE m0)), (2, dkO 0 1 room (dec lf) (inc op)), (1, .map []), (0, .map [])] dUsed0 rfl ⟨⟨by simp, rfl⟩, ⟨by simp, rfl⟩, trivial⟩ rfl (Le.refl _ _) ⟨⟨_, rfl, LeO.refl _ _⟩, ⟨_, rfl, LeO.refl _ _⟩, ⟨_, rfl, LeO.refl _ _⟩, ⟨_, rfl, LeO.refl _ _⟩, ⟨_, rfl, LeO.refl _ _⟩, ⟨_, rfl, LeO.refl _ _⟩, trivial⟩ ?_
  (conv => arg 4; whnf); repeat (refine ⟨rfl, ?_⟩; conv => arg 4; whnf)
  refine br_no (by have : IntKind.i64.wrap (room - 0) = room := by rw [IntKind.wrap_i64]; omega
                   rw [this, u8s_length]; simp; omega) ?_
  (conv => arg 4; whnf); repeat (refine ⟨rfl, ?_⟩; conv => arg 4; whnf)
  refine nth_in .nilp ⟨by decide, rfl⟩ ?_
  (conv => arg 4; whnf); repeat (refine ⟨rfl, ?_⟩; conv => arg 4; whnf)
  refine need_in (askN _) ?_
  (conv => arg 4; whnf); repeat (refine ⟨rfl, ?_⟩; conv => arg 4; whnf)
  refine callOK Try.call79 Try.func79 Try.ntmps79 rfl ?_
  (conv => arg 4; whnf); repeat (refine ⟨rfl, ?_⟩; conv => arg 4; whnf)
  refine callOK Try.call72 Try.func72 Try.ntmps72 rfl ?_
  (conv => arg 4; whnf); repeat (refine ⟨rfl, ?_⟩; conv => arg 4; whnf)
  refine br_no (by rfl) ?_
  (conv => arg 4; whnf); repeat (refine ⟨rfl, ?_⟩; conv => arg 4; whnf)
  refine br_yes (by rfl) ?_
  (conv => arg 4; whnf); repeat (refine ⟨rfl, ?_⟩; conv => arg 4; whnf)
  refine need_in (askN _) ?_
  (conv => arg 4; whnf); repeat (refine ⟨rfl, ?_⟩; conv => arg 4; whnf)
  refine ret_in ?_
  show holds _ _ _ _
  conv => arg 4; whnf
  refine need_in ?_ ?_
  · exact sizeOk 40 rfl (by simp)
  (conv => arg 4; whnf); repeat (refine ⟨rfl, ?_⟩; conv => arg 4; whnf)
  refine ret_in ?_
  show holds _ _ _ _
  conv => arg 4; whnf
  refine need_in (sizeOk 1 rfl (by rw [u8s_length]; omega)) ?_
  (conv => arg 4; whnf); repeat (refine ⟨rfl, ?_⟩; conv => arg 4; whnf)
  refine ret_in ?_
  show holds _ _ _ _
  conv => arg 4; whnf
  refine br_no (by decide) ?_
  (conv => arg 4; whnf); repeat (refine ⟨rfl, ?_⟩; conv => arg 4; whnf)
  refine callOK Try.call92 Try.func92 Try.ntmps92 rfl ?_
  (conv => arg 4; whnf); repeat (refine ⟨rfl, ?_⟩; conv => arg 4; whnf)
  refine callOK Try.call78 Try.func78 Try.ntmps78 rfl ?_
  (conv => arg 4; whnf); repeat (refine ⟨rfl, ?_⟩; conv => arg 4; whnf)
  refine need_in (sizeOk 16 rfl (by simp)) ?_
  (conv => arg 4; whnf); repeat (refine ⟨rfl, ?_⟩; conv => arg 4; whnf)
  refine holds_args (args' := [.ptr 2 0, .sl .none 0 (strsA [sN])]) ⟨Le.refl _ _, Le.none, trivial⟩ ?_
  refine callG2 [0, 1, 2, 7, 10] (.int .i64 0) [(10, .tip 0), (7, .cells [.sl (.tok 11 0) 0 (u8s (encR l)), .int .i64 0]), (11, .tip 0), (6, .map (fE m)), (5, tbO 2 4), (4, .map (fE m0)), (2, dkA (.sl (.tok 10 0) 3 [.agg [.str [], .str sN, .ptr 7 0]]) 0 1 room (dec (dec lf)) (inc (inc op))), (1, .map []), (0, .map [(.str sN, .ptr 7 0)])]
    (dAskedS (s := 0) (els := [.agg [.str [], .str sN, .ptr 3 0]]) (fun _ => rfl) sN_ok (by decide)) rfl ⟨⟨by simp, rfl⟩, ⟨by simp, rfl⟩, trivial⟩ rfl (Le.refl _ _) ⟨⟨_, rfl, LeO.refl _ _⟩, ⟨_, rfl, LeO.refl _ _⟩, ⟨_, rfl, LeO.refl _ _⟩, ⟨_, rfl, LeO.refl _ _⟩, ⟨_, rfl, LeO.refl _ _⟩, ⟨_, rfl, LeO.refl _ _⟩, ⟨_, rfl, LeO.refl _ _⟩, ⟨_, rfl, LeO.refl _ _⟩, ⟨_, rfl, LeO.refl _ _⟩, trivial⟩ ?_
  (conv => arg 4; whnf); repeat (refine ⟨rfl, ?_⟩; conv => arg 4; whnf)
  refine br_no (by decide) ?_
  (conv => arg 4; whnf); repeat (refine ⟨rfl, ?_⟩; conv => arg 4; whnf)
  refine nth_in (.ptr 7 0) ⟨by decide, rfl⟩ ?_
  (conv => arg 4; whnf); repeat (refine ⟨rfl, ?_⟩; conv => arg 4; whnf)
  refine need_in (ask1 _ _ _) ?_
  (conv => arg 4; whnf); repeat (refine ⟨rfl, ?_⟩; conv => arg 4; whnf)
  refine ret_in ?_
  show holds _ _ _ _
  conv => arg 4; whnf
  refine br_yes (by decide) ?_
  (conv => arg 4; whnf); repeat (refine ⟨rfl, ?_⟩; conv => arg 4; whnf)
  refine ret_in ?_
  show holds _ _ _ _
  conv => arg 4; whnf
  refine br_no (by decide) ?_
  (conv => arg 4; whnf); repeat (refine ⟨rfl, ?_⟩; conv => arg 4; whnf)
  refine callOK Try.call93 Try.func93 Try.ntmps93 rfl ?_
  (conv => arg 4; whnf); repeat (refine ⟨rfl, ?_⟩; conv => arg 4; whnf)
  refine callOK Try.call78 Try.func78 Try.ntmps78 rfl ?_
  (conv => arg 4; whnf); repeat (refine ⟨rfl, ?_⟩; conv => arg 4; whnf)
  refine need_in (sizeOk 16 rfl (by simp)) ?_
  (conv => arg 4; whnf); repeat (refine ⟨rfl, ?_⟩; conv => arg 4; whnf)
  refine holds_args (args' := [.ptr 2 0, .sl .none 0 (strsA [tN, sN])]) ⟨Le.refl _ _, Le.none, trivial⟩ ?_
  refine callG2 [0, 1, 2, 7, 10] (.int .i64 0) [(10, .tip 0), (7, .cells [bs (encR l), .int .i64 (encR l).length]), (6, .map (fE m)), (5, tbO 2 4), (4, .map (fE m0)), (2, dkA (.sl (.tok 10 0) 3 [.agg [.str [], .str sN, .ptr 7 0]]) 0 1 room (dec (dec (dec lf))) (inc (inc (inc op)))), (1, .map []), (0, .map [(.str sN, .ptr 7 0)])]
    (dAskedS (s := 0) (els := [.agg [.str [], .str sN, .ptr 3 0]]) (fun _ => rfl) tsN_ok (by decide)) rfl ⟨⟨by simp, rfl⟩, ⟨by simp, rfl⟩, trivial⟩ rfl (Le.refl _ _) ⟨⟨_, rfl, LeO.refl _ _⟩, ⟨_, rfl, LeL.cons Le.none (LeL.cons (Le.of_eq (congrArg (AV.int .i64) (by rw [u8s_length]))) (LeL.nil _))⟩, ⟨_, rfl, LeO.refl _ _⟩, ⟨_, rfl, LeO.refl _ _⟩, ⟨_, rfl, LeO.refl _ _⟩, ⟨_, rfl, LeO.refl _ _⟩, ⟨_, rfl, LeO.refl _ _⟩, ⟨_, rfl, LeO.refl _ _⟩, trivial⟩ ?_
  (conv => arg 4; whnf); repeat (refine ⟨rfl, ?_⟩; conv => arg 4; whnf)
  refine br_no (by decide) ?_
  (conv => arg 4; whnf); repeat (refine ⟨rfl, ?_⟩; conv => arg 4; whnf)
  refine nth_in (.ptr 7 0) ⟨by decide, rfl⟩ ?_
  (conv => arg 4; whnf); repeat (refine ⟨rfl, ?_⟩; conv => arg 4; whnf)
  refine need_in (ask1 _ _ _) ?_
  (conv => arg 4; whnf); repeat (refine ⟨rfl, ?_⟩; conv => arg 4; whnf)
  refine ret_in ?_
  show holds _ _ _ _
  conv => arg 4; whnf
  refine br_no (by decide) ?_
  (conv => arg 4; whnf); repeat (refine ⟨rfl, ?_⟩; conv => arg 4; whnf)
  refine br_no (by rfl) ?_
  (conv => arg 4; whnf); repeat (refine ⟨rfl, ?_⟩; conv => arg 4; whnf)
  refine callOK Try.call79 Try.func79 Try.ntmps79 rfl ?_
  (conv => arg 4; whnf); repeat (refine ⟨rfl, ?_⟩; conv => arg 4; whnf)
  refine callOK Try.call72 Try.func72 Try.ntmps72 rfl ?_
  (conv => arg 4; whnf); repeat (refine ⟨rfl, ?_⟩; conv => arg 4; whnf)
  refine br_yes (by rfl) ?_
  (conv => arg 4; whnf); repeat (refine ⟨rfl, ?_⟩; conv => arg 4; whnf)
  refine nth_in (.ptr 7 0) ⟨by decide, rfl⟩ ?_
  (conv => arg 4; whnf); repeat (refine ⟨rfl, ?_⟩; conv => arg 4; whnf)
  refine need_in (ask1 _ _ _) ?_
  (conv => arg 4; whnf); repeat (refine ⟨rfl, ?_⟩; conv => arg 4; whnf)
  refine need_in (ask1 _ _ _) ?_
  (conv => arg 4; whnf); repeat (refine ⟨rfl, ?_⟩; conv => arg 4; whnf)
  refine br_yes (by rfl) ?_
  (conv => arg 4; whnf); repeat (refine ⟨rfl, ?_⟩; conv => arg 4; whnf)
  refine need_in (askN _) ?_
  (conv => arg 4; whnf); repeat (refine ⟨rfl, ?_⟩; conv => arg 4; whnf)
  refine ret_in ?_
  show holds _ _ _ _
  conv => arg 4; whnf
  refine need_in ⟨rfl, sizeOk 40 rfl (by simp)⟩ ?_
  (conv => arg 4; whnf); repeat (refine ⟨rfl, ?_⟩; conv => arg 4; whnf)
  refine ret_in ?_
  show holds _ _ _ _
  conv => arg 4; whnf
  refine ret_in ?_
  show holds _ _ _ _
  conv => arg 4; whnf
  refine br_no (by decide) ?_
  (conv => arg 4; whnf); repeat (refine ⟨rfl, ?_⟩; conv => arg 4; whnf)
  refine callOK Try.call94 Try.func94 Try.ntmps94 rfl ?_
  (conv => arg 4; whnf); repeat (refine ⟨rfl, ?_⟩; conv => arg 4; whnf)
  refine holds_args (args' := [.ptr 2 0, .sl .none 0 (strsA [])]) ⟨Le.refl _ _, Le.nils, trivial⟩ ?_
  refine callG2 [0, 1, 2, 7, 10] (.int .i64 0) [(7, .cells [bs (encR l), .int .i64 (encR l).length]), (6, .map (fE m)), (5, tbO 2 4), (2, dkA (.sl (.tok 10 1) 3 [.agg [.str [], .str sN, .ptr 7 0], .agg [.str sN, .str tN, .nilp]]) 0 1 room (dec (dec (dec (dec lf)))) (inc (inc (inc (inc op))))), (1, .map []), (0, .map [(.str tN, .ptr 7 0)])]
    (dAskedS (s := 1) (els := [.agg [.str [], .str sN, .ptr 3 0], .agg [.str sN, .str tN, .nilp]]) (fun _ => rfl) (ns := []) (fun _ h => (nomatch h)) (by decide)) rfl ⟨⟨by simp, rfl⟩, ⟨by simp, rfl⟩, trivial⟩ rfl (Le.refl _ _) ⟨⟨_, rfl, LeO.refl _ _⟩, ⟨_, rfl, LeO.refl _ _⟩, ⟨_, rfl, LeO.refl _ _⟩, ⟨_, rfl, LeO.refl _ _⟩, ⟨_, rfl, LeO.refl _ _⟩, ⟨_, rfl, LeO.refl _ _⟩, trivial⟩ ?_
  (conv => arg 4; whnf); repeat (refine ⟨rfl, ?_⟩; conv => arg 4; whnf)
  refine br_yes (by decide) ?_
  (conv => arg 4; whnf); repeat (refine ⟨rfl, ?_⟩; conv => arg 4; whnf)
  refine callG2 [0, 7] (.map 16) [(16, .map [(.str tN, .ptr 7 0)]), (7, .cells [bs (encR l), .int .i64 (encR l).length]), (6, .map (fE m)), (5, tbO 2 4), (2, dkA (.sl (.tok 10 1) 3 [.agg [.str [], .str sN, .ptr 7 0], .agg [.str sN, .str tN, .nilp]]) 0 1 room (dec (dec (dec (dec lf)))) (inc (inc (inc (inc op))))), (0, .map [(.str tN, .ptr 7 0)])]
    (mapsCloneF (k := 1) (es := [(.str tN, .ptr 1 0)])) rfl ⟨⟨by simp, rfl⟩, trivial⟩ rfl (Le.refl _ _) ⟨⟨_, rfl, LeO.refl _ _⟩, ⟨_, rfl, LeO.refl _ _⟩, ⟨_, rfl, LeO.refl _ _⟩, ⟨_, rfl, LeO.refl _ _⟩, ⟨_, rfl, LeO.refl _ _⟩, ⟨_, rfl, LeO.refl _ _⟩, trivial⟩ ?_
  (conv => arg 4; whnf); repeat (refine ⟨rfl, ?_⟩; conv => arg 4; whnf)
  refine ret_in ?_
  show holds _ _ _ _
  conv => arg 4; whnf
  refine ret_in ?_
  show holds _ _ _ _
  conv => arg 4; whnf
  refine br_yes (by decide) ?_
  (conv => arg 4; whnf); repeat (refine ⟨rfl, ?_⟩; conv => arg 4; whnf)
  exact ⟨⟨_, _⟩, trivial, [0, 1, 2, 3, 4, 5, 6, 7, 16], rfl, rfl, Le.refl _ _, ⟨⟨_, rfl, LeL.cons (Le.refl _ _) (LeL.cons (Le.refl _ _) (LeL.cons Le.lb (LeL.nil _)))⟩, ⟨_, rfl, LeO.lc (ClO.fE _)⟩, ⟨_, rfl, LeO.refl _ _⟩, ⟨_, rfl, LeO.refl _ _⟩, ⟨_, rfl, LeO.refl _ _⟩, ⟨_, rfl, LeO.lc (ClO.fil _)⟩, trivial⟩⟩
end Go.Proofs.Ytlcanameloklbaa.Tp

namespace Go.Proofs.Ytlcanameloklbaa.Tp
set_option maxRecDepth 100000
set_option maxHeartbeats 80000000
open Go.Sym

theorem keeps1 {l m m0 : List Rw} {b0 : List UInt8} {room lf op : Int} (r : RelT l m) (hg : goodR l) (hl : l.length ≤ 1000) (hb0 : b0.length ≤ 100000) (hroom : ((encR l).length : Int) ≤ room - b0.length ∧ room ≤ 1099511627776) :
    CallOK Try.prog 69 [.ptr 5 0, .map 6] ((6, .map (fE m)) :: TT m0 (some b0) room lf op) 7 (fun a h n => ∃ x : LO, True ∧ Out (.int .i64 0) (T6 m (encR l) room x.lf x.op) 9 a h n) := by
  have hel := encR_len hg.fine hl
  refine CallOK.fit2E ?_
  refine callOK Try.call69 Try.func69 Try.ntmps69 rfl ?_
  (conv => arg 4; whnf); repeat (refine ⟨rfl, ?_⟩; conv => arg 4; whnf)
  refine callG [6] (bs (encR l)) ((6, .map (fE m)) :: TT m0 (some b0) room lf op) (encode r hg.fine hl) rfl ⟨⟨by simp, by rw [ClO.fE]; rfl⟩, trivial⟩ rfl (Le.cl (Cl.bs _)) ⟨⟨_, rfl, LeO.cl (ClO.fE _)⟩, ⟨_, rfl, LeO.refl _ _⟩, ⟨_, rfl, LeO.refl _ _⟩, ⟨_, rfl, LeO.refl _ _⟩, ⟨_, rfl, LeO.refl _ _⟩, ⟨_, rfl, LeO.refl _ _⟩, ⟨_, rfl, LeO.refl _ _⟩, trivial⟩ ?_
  (conv => arg 4; whnf); repeat (refine ⟨rfl, ?_⟩; conv => arg 4; whnf)
  refine callOK Try.call84 Try.func84 Try.ntmps84 rfl ?_
  (conv => arg 4; whnf); repeat (refine ⟨rfl, ?_⟩; conv => arg 4; whnf)
  refine callOK Try.call60 Try.func60 Try.ntmps60 rfl ?_
  (conv => arg 4; whnf); repeat (refine ⟨rfl, ?_⟩; conv => arg 4; whnf)
  refine nth_in .nilp ⟨by decide, rfl⟩ ?_
  (conv => arg 4; whnf); repeat (refine ⟨rfl, ?_⟩; conv => arg 4; whnf)
  refine need_in (ask1 _ _ _) ?_
  (conv => arg 4; whnf); repeat (refine ⟨rfl, ?_⟩; conv => arg 4; whnf)
  refine ret_in ?_
  show holds _ _ _ _
  conv => arg 4; whnf
  refine br_no (by decide) ?_
  (conv => arg 4; whnf); repeat (refine ⟨rfl, ?_⟩; conv => arg 4; whnf)
  refine callOK Try.call91 Try.func91 Try.ntmps91 rfl ?_
  (conv => arg 4; whnf); repeat (refine ⟨rfl, ?_⟩; conv => arg 4; whnf)
  refine holds_args (args' := [.ptr 2 0, .sl .none 0 (strsA [sN])]) ⟨Le.refl _ _, Le.none, trivial⟩ ?_
  refine callG2 [0, 1, 2, 3, 4] (.int .i64 0) [(6, .map (fE m)), (5, tbO 2 4), (4, .map (fE m0)), (2, dkO 0 1 room (dec lf) (inc op)), (1, .map [(.str tN, .ptr 3 0)]), (0, .map [(.str tN, .ptr 3 0)]), (3, .cells [bs b0, .int .i64 b0.length])] (dAskedN sN_ok (by decide)) rfl ⟨⟨by simp, rfl⟩, trivial⟩ rfl (Le.refl _ _) ⟨⟨_, rfl, LeO.refl _ _⟩, ⟨_, rfl, LeO.refl _ _⟩, ⟨_, rfl, LeO.refl _ _⟩, ⟨_, rfl, LeO.refl _ _⟩, ⟨_, rfl, LeO.refl _ _⟩, ⟨_, rfl, LeO.refl _ _⟩, ⟨_, rfl, LeO.refl _ _⟩, trivial⟩ ?_
  (conv => arg 4; whnf); repeat (refine ⟨rfl, ?_⟩; conv => arg 4; whnf)
  refine br_no (by decide) ?_
  (conv => arg 4; whnf); repeat (refine ⟨rfl, ?_⟩; conv => arg 4; whnf)
  refine callG2 [0, 1, 2, 3, 4] (.int .i64 b0.length) [(6, .map (fE m)), (5, tbO 2 4), (4, .map (fE m0)), (2, dkO 0 1 room (dec lf) (inc op)), (1, .map [(.str tN, .ptr 3 0)]), (0, .map [(.str tN, .ptr 3 0)])] (dUsed1 hb0) rfl ⟨⟨by simp, rfl⟩, ⟨by simp, rfl⟩, ⟨by simp, by rw [ClO.fil]; rfl⟩, trivial⟩ rfl (Le.refl _ _) ⟨⟨_, rfl, LeO.refl _ _⟩, ⟨_, rfl, LeO.refl _ _⟩, ⟨_, rfl, LeO.refl _ _⟩, ⟨_, rfl, LeO.refl _ _⟩, ⟨_, rfl, LeO.refl _ _⟩, ⟨_, rfl, LeO.refl _ _⟩, trivial⟩ ?_
  (conv => arg 4; whnf); repeat (refine ⟨rfl, ?_⟩; conv => arg 4; whnf)
  refine br_no (by have : IntKind.i64.wrap (room - (b0.length : Int)) = room - b0.length := by rw [IntKind.wrap_i64]; omega
                   rw [this, u8s_length]; simp; omega) ?_
  (conv => arg 4; whnf); repeat (refine ⟨rfl, ?_⟩; conv => arg 4; whnf)
  refine nth_in .nilp ⟨by decide, rfl⟩ ?_
  (conv => arg 4; whnf); repeat (refine ⟨rfl, ?_⟩; conv => arg 4; whnf)
  refine need_in (ask1 _ _ _) ?_
  (conv => arg 4; whnf); repeat (refine ⟨rfl, ?_⟩; conv => arg 4; whnf)
  refine callOK Try.call79 Try.func79 Try.ntmps79 rfl ?_
  (conv => arg 4; whnf); repeat (refine ⟨rfl, ?_⟩; conv => arg 4; whnf)
  refine callOK Try.call72 Try.func72 Try.ntmps72 rfl ?_
  (conv => arg 4; whnf); repeat (refine ⟨rfl, ?_⟩; conv => arg 4; whnf)
  refine br_no (by rfl) ?_
  (conv => arg 4; whnf); repeat (refine ⟨rfl, ?_⟩; conv => arg 4; whnf)
  refine br_yes (by rfl) ?_
  (conv => arg 4; whnf); repeat (refine ⟨rfl, ?_⟩; conv => arg 4; whnf)
  refine need_in (ask1 _ _ _) ?_
  (conv => arg 4; whnf); repeat (refine ⟨rfl, ?_⟩; conv => arg 4; whnf)
  refine ret_in ?_
  show holds _ _ _ _
  conv => arg 4; whnf
  refine need_in ?_ ?_
  · exact sizeOk 40 rfl (by simp)
  (conv => arg 4; whnf); repeat (refine ⟨rfl, ?_⟩; conv => arg 4; whnf)
  refine ret_in ?_
  show holds _ _ _ _
  conv => arg 4; whnf
  refine need_in (sizeOk 1 rfl (by rw [u8s_length]; omega)) ?_
  (conv => arg 4; whnf); repeat (refine ⟨rfl, ?_⟩; conv => arg 4; whnf)
  refine ret_in ?_
  show holds _ _ _ _
  conv => arg 4; whnf
  refine br_no (by decide) ?_
  (conv => arg 4; whnf); repeat (refine ⟨rfl, ?_⟩; conv => arg 4; whnf)
  refine callOK Try.call92 Try.func92 Try.ntmps92 rfl ?_
  (conv => arg 4; whnf); repeat (refine ⟨rfl, ?_⟩; conv => arg 4; whnf)
  refine callOK Try.call78 Try.func78 Try.ntmps78 rfl ?_
  (conv => arg 4; whnf); repeat (refine ⟨rfl, ?_⟩; conv => arg 4; whnf)
  refine need_in (sizeOk 16 rfl (by simp)) ?_
  (conv => arg 4; whnf); repeat (refine ⟨rfl, ?_⟩; conv => arg 4; whnf)
  refine holds_args (args' := [.ptr 2 0, .sl .none 0 (strsA [sN])]) ⟨Le.refl _ _, Le.none, trivial⟩ ?_
  refine callG2 [0, 1, 2, 7, 10] (.int .i64 0) [(10, .tip 0), (7, .cells [.sl (.tok 11 0) 0 (u8s (encR l)), .int .i64 0]), (11, .tip 0), (6, .map (fE m)), (5, tbO 2 4), (4, .map (fE m0)), (2, dkA (.sl (.tok 10 0) 3 [.agg [.str [], .str sN, .ptr 7 0]]) 0 1 room (dec (dec lf)) (inc (inc op))), (1, .map [(.str tN, .ptr 3 0)]), (0, .map [(.str tN, .ptr 3 0), (.str sN, .ptr 7 0)])]
    (dAskedS (s := 0) (els := [.agg [.str [], .str sN, .ptr 3 0]]) (fun _ => rfl) sN_ok (by decide)) rfl ⟨⟨by simp, rfl⟩, ⟨by simp, rfl⟩, trivial⟩ rfl (Le.refl _ _) ⟨⟨_, rfl, LeO.refl _ _⟩, ⟨_, rfl, LeO.refl _ _⟩, ⟨_, rfl, LeO.refl _ _⟩, ⟨_, rfl, LeO.refl _ _⟩, ⟨_, rfl, LeO.refl _ _⟩, ⟨_, rfl, LeO.refl _ _⟩, ⟨_, rfl, LeO.refl _ _⟩, ⟨_, rfl, LeO.refl _ _⟩, ⟨_, rfl, LeO.refl _ _⟩, trivial⟩ ?_
  (conv => arg 4; whnf); repeat (refine ⟨rfl, ?_⟩; conv => arg 4; whnf)
  refine br_no (by decide) ?_
  (conv => arg 4; whnf); repeat (refine ⟨rfl, ?_⟩; conv => arg 4; whnf)
  refine nth_in (.ptr 7 0) ⟨by decide, rfl⟩ ?_
  (conv => arg 4; whnf); repeat (refine ⟨rfl, ?_⟩; conv => arg 4; whnf)
  refine need_in (ask2 _ _ _ _ _) ?_
  (conv => arg 4; whnf); repeat (refine ⟨rfl, ?_⟩; conv => arg 4; whnf)
  refine ret_in ?_
  show holds _ _ _ _
  conv => arg 4; whnf
  refine br_yes (by decide) ?_
  (conv => arg 4; whnf); repeat (refine ⟨rfl, ?_⟩; conv => arg 4; whnf)
  refine ret_in ?_
  show holds _ _ _ _
  conv => arg 4; whnf
  refine br_no (by decide) ?_
  (conv => arg 4; whnf); repeat (refine ⟨rfl, ?_⟩; conv => arg 4; whnf)
  refine callOK Try.call93 Try.func93 Try.ntmps93 rfl ?_
  (conv => arg 4; whnf); repeat (refine ⟨rfl, ?_⟩; conv => arg 4; whnf)
  refine callOK Try.call78 Try.func78 Try.ntmps78 rfl ?_
  (conv => arg 4; whnf); repeat (refine ⟨rfl, ?_⟩; conv => arg 4; whnf)
  refine need_in (sizeOk 16 rfl (by simp)) ?_
  (conv => arg 4; whnf); repeat (refine ⟨rfl, ?_⟩; conv => arg 4; whnf)
  refine holds_args (args' := [.ptr 2 0, .sl .none 0 (strsA [tN, sN])]) ⟨Le.refl _ _, Le.none, trivial⟩ ?_
  refine callG2 [0, 1, 2, 7, 10] (.int .i64 0) [(10, .tip 0), (7, .cells [bs (encR l), .int .i64 (encR l).length]), (6, .map (fE m)), (5, tbO 2 4), (4, .map (fE m0)), (2, dkA (.sl (.tok 10 0) 3 [.agg [.str [], .str sN, .ptr 7 0]]) 0 1 room (dec (dec (dec lf))) (inc (inc (inc op)))), (1, .map [(.str tN, .ptr 3 0)]), (0, .map [(.str tN, .ptr 3 0), (.str sN, .ptr 7 0)])]
    (dAskedS (s := 0) (els := [.agg [.str [], .str sN, .ptr 3 0]]) (fun _ => rfl) tsN_ok (by decide)) rfl ⟨⟨by simp, rfl⟩, ⟨by simp, rfl⟩, trivial⟩ rfl (Le.refl _ _) ⟨⟨_, rfl, LeO.refl _ _⟩, ⟨_, rfl, LeL.cons Le.none (LeL.cons (Le.of_eq (congrArg (AV.int .i64) (by rw [u8s_length]))) (LeL.nil _))⟩, ⟨_, rfl, LeO.refl _ _⟩, ⟨_, rfl, LeO.refl _ _⟩, ⟨_, rfl, LeO.refl _ _⟩, ⟨_, rfl, LeO.refl _ _⟩, ⟨_, rfl, LeO.refl _ _⟩, ⟨_, rfl, LeO.refl _ _⟩, trivial⟩ ?_
  (conv => arg 4; whnf); repeat (refine ⟨rfl, ?_⟩; conv => arg 4; whnf)
  refine br_no (by decide) ?_
  (conv => arg 4; whnf); repeat (refine ⟨rfl, ?_⟩; conv => arg 4; whnf)
  refine nth_in (.ptr 7 0) ⟨by decide, rfl⟩ ?_
  (conv => arg 4; whnf); repeat (refine ⟨rfl, ?_⟩; conv => arg 4; whnf)
  refine need_in (ask2 _ _ _ _ _) ?_
  (conv => arg 4; whnf); repeat (refine ⟨rfl, ?_⟩; conv => arg 4; whnf)
  refine ret_in ?_
  show holds _ _ _ _
  conv => arg 4; whnf
  refine br_no (by decide) ?_
  (conv => arg 4; whnf); repeat (refine ⟨rfl, ?_⟩; conv => arg 4; whnf)
  refine br_no (by rfl) ?_
  (conv => arg 4; whnf); repeat (refine ⟨rfl, ?_⟩; conv => arg 4; whnf)
  refine callOK Try.call79 Try.func79 Try.ntmps79 rfl ?_
  (conv => arg 4; whnf); repeat (refine ⟨rfl, ?_⟩; conv => arg 4; whnf)
  refine callOK Try.call72 Try.func72 Try.ntmps72 rfl ?_
  (conv => arg 4; whnf); repeat (refine ⟨rfl, ?_⟩; conv => arg 4; whnf)
  refine br_yes (by rfl) ?_
  (conv => arg 4; whnf); repeat (refine ⟨rfl, ?_⟩; conv => arg 4; whnf)
  refine nth_in (.ptr 7 0) ⟨by decide, rfl⟩ ?_
  (conv => arg 4; whnf); repeat (refine ⟨rfl, ?_⟩; conv => arg 4; whnf)
  refine need_in (ask2 _ _ _ _ _) ?_
  (conv => arg 4; whnf); repeat (refine ⟨rfl, ?_⟩; conv => arg 4; whnf)
  refine need_in (ask2 _ _ _ _ _) ?_
  (conv => arg 4; whnf); repeat (refine ⟨rfl, ?_⟩; conv => arg 4; whnf)
  refine br_yes (by rfl) ?_
  (conv => arg 4; whnf); repeat (refine ⟨rfl, ?_⟩; conv => arg 4; whnf)
  refine need_in (ask1 _ _ _) ?_
  (conv => arg 4; whnf); repeat (refine ⟨rfl, ?_⟩; conv => arg 4; whnf)
  refine ret_in ?_
  show holds _ _ _ _
  conv => arg 4; whnf
  refine need_in ⟨rfl, sizeOk 40 rfl (by simp)⟩ ?_
  (conv => arg 4; whnf); repeat (refine ⟨rfl, ?_⟩; conv => arg 4; whnf)
  refine ret_in ?_
  show holds _ _ _ _
  conv => arg 4; whnf
  refine ret_in ?_
  show holds _ _ _ _
  conv => arg 4; whnf
  refine br_no (by decide) ?_
  (conv => arg 4; whnf); repeat (refine ⟨rfl, ?_⟩; conv => arg 4; whnf)
  refine callOK Try.call94 Try.func94 Try.ntmps94 rfl ?_
  (conv => arg 4; whnf); repeat (refine ⟨rfl, ?_⟩; conv => arg 4; whnf)
  refine holds_args (args' := [.ptr 2 0, .sl .none 0 (strsA [])]) ⟨Le.refl _ _, Le.nils, trivial⟩ ?_
  refine callG2 [0, 1, 2, 7, 10] (.int .i64 0) [(7, .cells [bs (encR l), .int .i64 (encR l).length]), (6, .map (fE m)), (5, tbO 2 4), (2, dkA (.sl (.tok 10 1) 3 [.agg [.str [], .str sN, .ptr 7 0], .agg [.str sN, .str tN, .nilp]]) 0 1 room (dec (dec (dec (dec lf)))) (inc (inc (inc (inc op))))), (1, .map [(.str tN, .ptr 3 0)]), (0, .map [(.str tN, .ptr 7 0)])]
    (dAskedS (s := 1) (els := [.agg [.str [], .str sN, .ptr 3 0], .agg [.str sN, .str tN, .nilp]]) (fun _ => rfl) (ns := []) (fun _ h => (nomatch h)) (by decide)) rfl ⟨⟨by simp, rfl⟩, ⟨by simp, rfl⟩, trivial⟩ rfl (Le.refl _ _) ⟨⟨_, rfl, LeO.refl _ _⟩, ⟨_, rfl, LeO.refl _ _⟩, ⟨_, rfl, LeO.refl _ _⟩, ⟨_, rfl, LeO.refl _ _⟩, ⟨_, rfl, LeO.refl _ _⟩, ⟨_, rfl, LeO.refl _ _⟩, trivial⟩ ?_
  (conv => arg 4; whnf); repeat (refine ⟨rfl, ?_⟩; conv => arg 4; whnf)
  refine br_yes (by decide) ?_
  (conv => arg 4; whnf); repeat (refine ⟨rfl, ?_⟩; conv => arg 4; whnf)
  refine callG2 [0, 7] (.map 16) [(16, .map [(.str tN, .ptr 7 0)]), (7, .cells [bs (encR l), .int .i64 (encR l).length]), (6, .map (fE m)), (5, tbO 2 4), (2, dkA (.sl (.tok 10 1) 3 [.agg [.str [], .str sN, .ptr 7 0], .agg [.str sN, .str tN, .nilp]]) 0 1 room (dec (dec (dec (dec lf)))) (inc (inc (inc (inc op))))), (0, .map [(.str tN, .ptr 7 0)])]
    (mapsCloneF (k := 1) (es := [(.str tN, .ptr 1 0)])) rfl ⟨⟨by simp, rfl⟩, trivial⟩ rfl (Le.refl _ _) ⟨⟨_, rfl, LeO.refl _ _⟩, ⟨_, rfl, LeO.refl _ _⟩, ⟨_, rfl, LeO.refl _ _⟩, ⟨_, rfl, LeO.refl _ _⟩, ⟨_, rfl, LeO.refl _ _⟩, ⟨_, rfl, LeO.refl _ _⟩, trivial⟩ ?_
  (conv => arg 4; whnf); repeat (refine ⟨rfl, ?_⟩; conv => arg 4; whnf)
  refine ret_in ?_
  show holds _ _ _ _
  conv => arg 4; whnf
  refine ret_in ?_
  show holds _ _ _ _
  conv => arg 4; whnf
  refine br_yes (by decide) ?_
  (conv => arg 4; whnf); repeat (refine ⟨rfl, ?_⟩; conv => arg 4; whnf)
  exact ⟨⟨_, _⟩, trivial, [0, 1, 2, 3, 4, 5, 6, 7, 16], rfl, rfl, Le.refl _ _, ⟨⟨_, rfl, LeL.cons (Le.refl _ _) (LeL.cons (Le.refl _ _) (LeL.cons Le.lb (LeL.nil _)))⟩, ⟨_, rfl, LeO.lc (ClO.fE _)⟩, ⟨_, rfl, LeO.refl _ _⟩, ⟨_, rfl, LeO.refl _ _⟩, ⟨_, rfl, LeO.refl _ _⟩, ⟨_, rfl, LeO.lc (ClO.fil _)⟩, trivial⟩⟩
end Go.Proofs.Ytlcanameloklbaa.Tp

namespace Go.Proofs.Ytlcanameloklbaa.Tp
set_option maxRecDepth 100000
set_option maxHeartbeats 80000000
open Go.Sym

theorem open0 {room lf op : Int} : CallOK Try.prog 34 [.ptr 2 0] (DK none room lf op) 4 (Out (.tup [.ptr 5 0, .int .i64 0]) (TT [] none room lf op) 6) := by
  refine CallOK.fit2 ?_
  refine callOK Try.call34 Try.func34 Try.ntmps34 rfl ?_
  (conv => arg 4; whnf); repeat (refine ⟨rfl, ?_⟩; conv => arg 4; whnf)
  refine callOK Try.call60 Try.func60 Try.ntmps60 rfl ?_
  (conv => arg 4; whnf); repeat (refine ⟨rfl, ?_⟩; conv => arg 4; whnf)
  refine nth_in .nilp ⟨by decide, rfl⟩ ?_
  (conv => arg 4; whnf); repeat (refine ⟨rfl, ?_⟩; conv => arg 4; whnf)
  refine need_in (askN _) ?_
  (conv => arg 4; whnf); repeat (refine ⟨rfl, ?_⟩; conv => arg 4; whnf)
  refine ret_in ?_
  show holds _ _ _ _
  conv => arg 4; whnf
  refine br_no (by decide) ?_
  (conv => arg 4; whnf); repeat (refine ⟨rfl, ?_⟩; conv => arg 4; whnf)
  refine callOK Try.call62 Try.func62 Try.ntmps62 rfl ?_
  (conv => arg 4; whnf); repeat (refine ⟨rfl, ?_⟩; conv => arg 4; whnf)
  refine callOK Try.call60 Try.func60 Try.ntmps60 rfl ?_
  (conv => arg 4; whnf); repeat (refine ⟨rfl, ?_⟩; conv => arg 4; whnf)
  refine nth_in .nilp ⟨by decide, rfl⟩ ?_
  (conv => arg 4; whnf); repeat (refine ⟨rfl, ?_⟩; conv => arg 4; whnf)
  refine need_in (askN _) ?_
  (conv => arg 4; whnf); repeat (refine ⟨rfl, ?_⟩; conv => arg 4; whnf)
  refine ret_in ?_
  show holds _ _ _ _
  conv => arg 4; whnf
  refine br_yes (by decide) ?_
  (conv => arg 4; whnf); repeat (refine ⟨rfl, ?_⟩; conv => arg 4; whnf)
  refine ret_in ?_
  show holds _ _ _ _
  conv => arg 4; whnf
  refine br_no (by decide) ?_
  (conv => arg 4; whnf); repeat (refine ⟨rfl, ?_⟩; conv => arg 4; whnf)
  exact ⟨[0, 1, 2, 3, 4, 5], rfl, rfl, Le.refl _ _, ⟨⟨_, rfl, LeO.refl _ _⟩, ⟨_, rfl, LeO.refl _ _⟩, ⟨_, rfl, LeO.refl _ _⟩, ⟨_, rfl, LeO.refl _ _⟩, ⟨_, rfl, LeO.refl _ _⟩, trivial⟩⟩
theorem open1 {l : List Rw} {room lf op : Int} (hs : SrtR l) (hg : goodR l) (hl : l.length ≤ 1000) : CallOK Try.prog 34 [.ptr 2 0] (DK (some (encR l)) room lf op) 4 (Out (.tup [.ptr 5 0, .int .i64 0]) (TT l (some (encR l)) room lf op) 6) := by
  have hel := encR_len hg.fine hl
  refine CallOK.fit2 ?_
  refine callOK Try.call34 Try.func34 Try.ntmps34 rfl ?_
  (conv => arg 4; whnf); repeat (refine ⟨rfl, ?_⟩; conv => arg 4; whnf)
  refine callOK Try.call60 Try.func60 Try.ntmps60 rfl ?_
  (conv => arg 4; whnf); repeat (refine ⟨rfl, ?_⟩; conv => arg 4; whnf)
  refine nth_in .nilp ⟨by decide, rfl⟩ ?_
  (conv => arg 4; whnf); repeat (refine ⟨rfl, ?_⟩; conv => arg 4; whnf)
  refine need_in (ask1 _ _ _) ?_
  (conv => arg 4; whnf); repeat (refine ⟨rfl, ?_⟩; conv => arg 4; whnf)
  refine ret_in ?_
  show holds _ _ _ _
  conv => arg 4; whnf
  refine br_no (by decide) ?_
  (conv => arg 4; whnf); repeat (refine ⟨rfl, ?_⟩; conv => arg 4; whnf)
  refine callOK Try.call62 Try.func62 Try.ntmps62 rfl ?_
  (conv => arg 4; whnf); repeat (refine ⟨rfl, ?_⟩; conv => arg 4; whnf)
  refine callOK Try.call60 Try.func60 Try.ntmps60 rfl ?_
  (conv => arg 4; whnf); repeat (refine ⟨rfl, ?_⟩; conv => arg 4; whnf)
  refine nth_in (.ptr 3 0) ⟨by decide, rfl⟩ ?_
  (conv => arg 4; whnf); repeat (refine ⟨rfl, ?_⟩; conv => arg 4; whnf)
  refine need_in (ask1 _ _ _) ?_
  (conv => arg 4; whnf); repeat (refine ⟨rfl, ?_⟩; conv => arg 4; whnf)
  refine nth_in (.ptr 3 0) ⟨by decide, rfl⟩ ?_
  (conv => arg 4; whnf); repeat (refine ⟨rfl, ?_⟩; conv => arg 4; whnf)
  refine need_in (ask1 _ _ _) ?_
  (conv => arg 4; whnf); repeat (refine ⟨rfl, ?_⟩; conv => arg 4; whnf)
  refine ret_in ?_
  show holds _ _ _ _
  conv => arg 4; whnf
  refine br_no (by rw [u8s_length]; simp) ?_
  (conv => arg 4; whnf); repeat (refine ⟨rfl, ?_⟩; conv => arg 4; whnf)
  refine nth_in (.ptr 3 0) ⟨by decide, rfl⟩ ?_
  (conv => arg 4; whnf); repeat (refine ⟨rfl, ?_⟩; conv => arg 4; whnf)
  refine need_in (ask1 _ _ _) ?_
  (conv => arg 4; whnf); repeat (refine ⟨rfl, ?_⟩; conv => arg 4; whnf)
  refine call0 (clone (l := encR l) (by omega)) (ClL.cons (Cl.bs _) ClL.nil) (Cl.bs _) ?_
  (conv => arg 4; whnf); repeat (refine ⟨rfl, ?_⟩; conv => arg 4; whnf)
  refine ret_in ?_
  show holds _ _ _ _
  conv => arg 4; whnf
  refine br_yes (by decide) ?_
  (conv => arg 4; whnf); repeat (refine ⟨rfl, ?_⟩; conv => arg 4; whnf)
  refine callG2 [] (.map 6) [(6, .map (fE l)), (5, tbO 2 4), (2, dkO 0 1 room lf op), (1, .map [(.str tN, .ptr 3 0)]), (0, .map [(.str tN, .ptr 3 0)]), (3, .cells [bs (encR l), .int .i64 (encR l).length])] (decode hs hg hl) rfl trivial (by simp only [renL, ren, renL_u8s, renP]; rfl) (Le.refl _ _) ⟨⟨_, rfl, LeO.cl (ClO.fE _)⟩, ⟨_, rfl, LeO.refl _ _⟩, ⟨_, rfl, LeO.refl _ _⟩, ⟨_, rfl, LeO.refl _ _⟩, ⟨_, rfl, LeO.refl _ _⟩, ⟨_, rfl, LeO.refl _ _⟩, trivial⟩ ?_
  (conv => arg 4; whnf); repeat (refine ⟨rfl, ?_⟩; conv => arg 4; whnf)
  exact ⟨[0, 1, 2, 3, 6, 5], rfl, rfl, Le.refl _ _, ⟨⟨_, rfl, LeO.refl _ _⟩, ⟨_, rfl, LeO.lc (ClO.fE _)⟩, ⟨_, rfl, LeO.refl _ _⟩, ⟨_, rfl, LeO.refl _ _⟩, ⟨_, rfl, LeO.refl _ _⟩, ⟨_, rfl, LeO.lc (ClO.fil _)⟩, trivial⟩⟩
end Go.Proofs.Ytlcanameloklbaa.Tp

namespace Go.Proofs.Ytlcanameloklbaa.Tp
set_option maxRecDepth 100000
set_option maxHeartbeats 80000000
open Go.Sym

theorem keepsC {l m m0 : List Rw} {fs : Option (List UInt8)} {room lf op : Int} (r : RelT l m) (hg : goodR l) (hl : l.length ≤ 1000) (hfs : ∀ b, fs = some b → b.length ≤ 100000) (hroom : 200000 ≤ room ∧ room ≤ 1099511627776) :
    CallOK Try.prog 69 [.ptr 5 0, .map 6] ((6, .map (fE m)) :: TT m0 fs room lf op) 7 (fun a h n => ∃ x : LO, True ∧ Out (.int .i64 0) (T6 m (encR l) room x.lf x.op) 9 a h n) := by
  have hel := encR_len hg.fine hl
  cases fs with
  | none => exact keeps0 r hg hl ⟨by omega, hroom.2⟩
  | some b => exact keeps1 r hg hl (hfs b rfl) ⟨by have := hfs b rfl; omega, hroom.2⟩
theorem createOk {l m : List Rw} {k : List UInt8} {v : Int} {fs : Option (List UInt8)} {room lf op : Int} (r : RelT l m) (hg : goodR l) (hl : l.length < 20) (hk : okT (k, v) = true) (hn : findM l k = none) (hfs : ∀ b, fs = some b → b.length ≤ 100000) (hroom : 200000 ≤ room ∧ room ≤ 1099511627776) :
    CallOK Try.prog 41 [.ptr 5 0, .str k, .int .i64 v] (TT m fs room lf op) 6 (fun a h n => ∃ x : LO, True ∧ Out (.int .i64 0) (T6 (setM m k v) (encR (insR k v l)) room x.lf x.op) 9 a h n) := by
  have r2 := r.ins v hn
  have hg2 : goodR (insR k v l) := fun x hx => by
    rcases ins_mem hx with rfl | hx
    · exact hk
    · exact hg x hx
  have hl2 : (insR k v l).length ≤ 1000 := by rw [len_ins]; omega
  have hel := encR_len hg2.fine hl2
  have hkl : k.length ≤ 20 := by
    unfold okT at hk
    simp only [Bool.and_eq_true] at hk
    exact (nm_len hk.1).2
  refine CallOK.fit2E ?_
  refine callOK Try.call41 Try.func41 Try.ntmps41 rfl ?_
  (conv => arg 4; whnf); repeat (refine ⟨rfl, ?_⟩; conv => arg 4; whnf)
  refine callOK Try.call66 Try.func66 Try.ntmps66 rfl ?_
  (conv => arg 4; whnf); repeat (refine ⟨rfl, ?_⟩; conv => arg 4; whnf)
  refine ret_in ?_
  show holds _ _ _ _
  conv => arg 4; whnf
  refine call0 (tpMay (s := k) (p := v) (by omega)) (by (repeat' (first | with_reducible assumption | exact ClL.nil | exact Cl.int _ _ | exact Cl.bool _ | exact Cl.bl _ | exact Cl.bs _ | exact Cl.str _ | exact Cl.nils | exact Cl.nilp | exact Cl.rec _ | exact Cl.bat _ | exact Cl.recsV _ | exact Cl.strsV _ | exact Cl.intsV _ | exact Cl.req _ | exact Cl.rsp _ | exact Cl.reqA _ | exact Cl.rspA _ | exact Cl.batsV _ | exact Cl.prsV _ | exact Cl.atsV _ | exact Cl.entA _ _ | exact Cl.ent _ | exact Cl.rr _ _ | exact Cl.foundA _ | exact Cl.getB _ | exact Cl.encA _ | exact Cl.firstA _ | refine ClL.cons ?_ ?_ | refine Cl.tup ?_ | refine Cl.agg ?_ | exact ClO.RO _ _))) (by (repeat' (first | with_reducible assumption | exact ClL.nil | exact Cl.int _ _ | exact Cl.bool _ | exact Cl.bl _ | exact Cl.bs _ | exact Cl.str _ | exact Cl.nils | exact Cl.nilp | exact Cl.rec _ | exact Cl.bat _ | exact Cl.recsV _ | exact Cl.strsV _ | exact Cl.intsV _ | exact Cl.req _ | exact Cl.rsp _ | exact Cl.reqA _ | exact Cl.rspA _ | exact Cl.batsV _ | exact Cl.prsV _ | exact Cl.atsV _ | exact Cl.entA _ _ | exact Cl.ent _ | exact Cl.rr _ _ | exact Cl.foundA _ | exact Cl.getB _ | exact Cl.encA _ | exact Cl.firstA _ | refine ClL.cons ?_ ?_ | refine Cl.tup ?_ | refine Cl.agg ?_ | exact ClO.RO _ _))) ?_
  (conv => arg 4; whnf); repeat (refine ⟨rfl, ?_⟩; conv => arg 4; whnf)
  refine br_no (by rw [hk]; rfl) ?_
  (conv => arg 4; whnf); repeat (refine ⟨rfl, ?_⟩; conv => arg 4; whnf)
  refine nth_in (.tup [.int .i64 0, .bool false]) ⟨by decide, by
    have : lookV (fE m) (.str k) (.int .i64 0) true = .tup [.int .i64 0, .bool false] := by rw [look_fE2, r.look, hn]; rfl
    exact congrArg some this⟩ ?_
  (conv => arg 4; whnf); repeat (refine ⟨rfl, ?_⟩; conv => arg 4; whnf)
  refine need_in (askF m k) ?_
  (conv => arg 4; whnf); repeat (refine ⟨rfl, ?_⟩; conv => arg 4; whnf)
  refine br_no (by rfl) ?_
  (conv => arg 4; whnf); repeat (refine ⟨rfl, ?_⟩; conv => arg 4; whnf)
  refine br_no (by
    have : (fE m).length = l.length := by rw [fE, List.length_map, r.len]
    rw [this]; simp; omega) ?_
  (conv => arg 4; whnf); repeat (refine ⟨rfl, ?_⟩; conv => arg 4; whnf)
  cases fs with
  | none =>
    refine callG2 [4] (.map 6) ((6, .map (fE m)) :: TT m none room lf op) (mapsCloneI (k := 0) (es := fE m)) rfl ⟨⟨by simp, by rw [ClO.fE]; rfl⟩, trivial⟩ rfl (Le.refl _ _) ⟨⟨_, rfl, LeO.cl (ClO.fE _)⟩, ⟨_, rfl, LeO.refl _ _⟩, ⟨_, rfl, LeO.cl (ClO.fE _)⟩, ⟨_, rfl, LeO.refl _ _⟩, ⟨_, rfl, LeO.refl _ _⟩, ⟨_, rfl, LeO.refl _ _⟩, trivial⟩ ?_
    (conv => arg 4; whnf); repeat (refine ⟨rfl, ?_⟩; conv => arg 4; whnf)
    refine need_in (askF m k) ?_
    (conv => arg 4; whnf); repeat (refine ⟨rfl, ?_⟩; conv => arg 4; whnf)
    refine callGE2 [0, 1, 2, 3, 4, 5, 6] (fun _ => .int .i64 0) (fun x => T6 (setM m k v) (encR (insR k v l)) room x.lf x.op) (keepsC r2 hg2 hl2 hfs hroom) rfl ⟨⟨by simp, by rw [ClO.fE, ← set_fE]; rfl⟩, ⟨by simp, rfl⟩, ⟨by simp, by rw [ClO.fE]; rfl⟩, ⟨by simp, rfl⟩, ⟨by simp, rfl⟩, ⟨by simp, rfl⟩, trivial⟩ rfl (fun _ _ => Le.refl _ _) (fun _ _ => ⟨⟨_, rfl, LeO.refl _ _⟩, ⟨_, rfl, LeO.cl (ClO.fE _)⟩, ⟨_, rfl, LeO.refl _ _⟩, ⟨_, rfl, LeO.refl _ _⟩, ⟨_, rfl, LeO.refl _ _⟩, ⟨_, rfl, LeO.cl (ClO.fil _)⟩, trivial⟩) fun y _ => ?_
    (conv => arg 4; whnf); repeat (refine ⟨rfl, ?_⟩; conv => arg 4; whnf)
    exact ⟨y, trivial, [0, 1, 2, 3, 4, 5, 6, 7, 8], rfl, rfl, Le.refl _ _, ⟨⟨_, rfl, LeO.refl _ _⟩, ⟨_, rfl, LeO.lc (ClO.fE _)⟩, ⟨_, rfl, LeO.refl _ _⟩, ⟨_, rfl, LeO.refl _ _⟩, ⟨_, rfl, LeO.refl _ _⟩, ⟨_, rfl, LeO.lc (ClO.fil _)⟩, trivial⟩⟩
  | some b0 =>
    refine callG2 [4] (.map 6) ((6, .map (fE m)) :: TT m (some b0) room lf op) (mapsCloneI (k := 0) (es := fE m)) rfl ⟨⟨by simp, by rw [ClO.fE]; rfl⟩, trivial⟩ rfl (Le.refl _ _) ⟨⟨_, rfl, LeO.cl (ClO.fE _)⟩, ⟨_, rfl, LeO.refl _ _⟩, ⟨_, rfl, LeO.cl (ClO.fE _)⟩, ⟨_, rfl, LeO.refl _ _⟩, ⟨_, rfl, LeO.refl _ _⟩, ⟨_, rfl, LeO.refl _ _⟩, ⟨_, rfl, LeO.refl _ _⟩, trivial⟩ ?_
    (conv => arg 4; whnf); repeat (refine ⟨rfl, ?_⟩; conv => arg 4; whnf)
    refine need_in (askF m k) ?_
    (conv => arg 4; whnf); repeat (refine ⟨rfl, ?_⟩; conv => arg 4; whnf)
    refine callGE2 [0, 1, 2, 3, 4, 5, 6] (fun _ => .int .i64 0) (fun x => T6 (setM m k v) (encR (insR k v l)) room x.lf x.op) (keepsC r2 hg2 hl2 hfs hroom) rfl ⟨⟨by simp, by rw [ClO.fE, ← set_fE]; rfl⟩, ⟨by simp, rfl⟩, ⟨by simp, by rw [ClO.fE]; rfl⟩, ⟨by simp, rfl⟩, ⟨by simp, rfl⟩, ⟨by simp, rfl⟩, ⟨by simp, by rw [ClO.fil]; rfl⟩, trivial⟩ rfl (fun _ _ => Le.refl _ _) (fun _ _ => ⟨⟨_, rfl, LeO.refl _ _⟩, ⟨_, rfl, LeO.cl (ClO.fE _)⟩, ⟨_, rfl, LeO.refl _ _⟩, ⟨_, rfl, LeO.refl _ _⟩, ⟨_, rfl, LeO.refl _ _⟩, ⟨_, rfl, LeO.cl (ClO.fil _)⟩, trivial⟩) fun y _ => ?_
    (conv => arg 4; whnf); repeat (refine ⟨rfl, ?_⟩; conv => arg 4; whnf)
    exact ⟨y, trivial, [0, 1, 2, 3, 4, 5, 6, 7, 8], rfl, rfl, Le.refl _ _, ⟨⟨_, rfl, LeO.refl _ _⟩, ⟨_, rfl, LeO.lc (ClO.fE _)⟩, ⟨_, rfl, LeO.refl _ _⟩, ⟨_, rfl, LeO.refl _ _⟩, ⟨_, rfl, LeO.refl _ _⟩, ⟨_, rfl, LeO.lc (ClO.fil _)⟩, trivial⟩⟩

end Go.Proofs.Ytlcanameloklbaa.Tp

namespace Go.Proofs.Ytlcanameloklbaa.Tp
set_option maxRecDepth 100000
set_option maxHeartbeats 80000000
open Go.Sym

theorem createArg {l m : List Rw} {k : List UInt8} {v : Int} {fs : Option (List UInt8)} {room lf op : Int} (hk : k.length ≤ 1000000) (ho : okT (k, v) = false) :
    CallOK Try.prog 41 [.ptr 5 0, .str k, .int .i64 v] (TT m fs room lf op) 6 (Out (.int .i64 1) (TT m fs room lf op) 6) := by
  cases fs with
  | none =>
    refine CallOK.fit (by decide) ?_
    refine callOK Try.call41 Try.func41 Try.ntmps41 rfl ?_
    (conv => arg 4; whnf); repeat (refine ⟨rfl, ?_⟩; conv => arg 4; whnf)
    refine callOK Try.call66 Try.func66 Try.ntmps66 rfl ?_
    (conv => arg 4; whnf); repeat (refine ⟨rfl, ?_⟩; conv => arg 4; whnf)
    refine ret_in ?_
    show holds _ _ _ _
    conv => arg 4; whnf
    refine call0 (tpMay (s := k) (p := v) hk) (by (repeat' (first | with_reducible assumption | exact ClL.nil | exact Cl.int _ _ | exact Cl.bool _ | exact Cl.bl _ | exact Cl.bs _ | exact Cl.str _ | exact Cl.nils | exact Cl.nilp | exact Cl.rec _ | exact Cl.bat _ | exact Cl.recsV _ | exact Cl.strsV _ | exact Cl.intsV _ | exact Cl.req _ | exact Cl.rsp _ | exact Cl.reqA _ | exact Cl.rspA _ | exact Cl.batsV _ | exact Cl.prsV _ | exact Cl.atsV _ | exact Cl.entA _ _ | exact Cl.ent _ | exact Cl.rr _ _ | exact Cl.foundA _ | exact Cl.getB _ | exact Cl.encA _ | exact Cl.firstA _ | refine ClL.cons ?_ ?_ | refine Cl.tup ?_ | refine Cl.agg ?_ | exact ClO.RO _ _))) (by (repeat' (first | with_reducible assumption | exact ClL.nil | exact Cl.int _ _ | exact Cl.bool _ | exact Cl.bl _ | exact Cl.bs _ | exact Cl.str _ | exact Cl.nils | exact Cl.nilp | exact Cl.rec _ | exact Cl.bat _ | exact Cl.recsV _ | exact Cl.strsV _ | exact Cl.intsV _ | exact Cl.req _ | exact Cl.rsp _ | exact Cl.reqA _ | exact Cl.rspA _ | exact Cl.batsV _ | exact Cl.prsV _ | exact Cl.atsV _ | exact Cl.entA _ _ | exact Cl.ent _ | exact Cl.rr _ _ | exact Cl.foundA _ | exact Cl.getB _ | exact Cl.encA _ | exact Cl.firstA _ | refine ClL.cons ?_ ?_ | refine Cl.tup ?_ | refine Cl.agg ?_ | exact ClO.RO _ _))) ?_
    (conv => arg 4; whnf); repeat (refine ⟨rfl, ?_⟩; conv => arg 4; whnf)
    refine br_yes (by rw [ho]; rfl) ?_
    (conv => arg 4; whnf); repeat (refine ⟨rfl, ?_⟩; conv => arg 4; whnf)
    exact ⟨by decide, Le.refl _ _, ⟨⟨_, rfl, LeO.refl _ _⟩, ⟨_, rfl, LeO.refl _ _⟩, ⟨_, rfl, LeO.refl _ _⟩, ⟨_, rfl, LeO.refl _ _⟩, ⟨_, rfl, LeO.refl _ _⟩, trivial⟩, (by (repeat' (first | with_reducible assumption | exact ClL.nil | exact Cl.int _ _ | exact Cl.bool _ | exact Cl.bl _ | exact Cl.bs _ | exact Cl.str _ | exact Cl.nils | exact Cl.nilp | exact Cl.rec _ | exact Cl.bat _ | exact Cl.recsV _ | exact Cl.strsV _ | exact Cl.intsV _ | exact Cl.req _ | exact Cl.rsp _ | exact Cl.reqA _ | exact Cl.rspA _ | exact Cl.batsV _ | exact Cl.prsV _ | exact Cl.atsV _ | exact Cl.entA _ _ | exact Cl.ent _ | exact Cl.rr _ _ | exact Cl.foundA _ | exact Cl.getB _ | exact Cl.encA _ | exact Cl.firstA _ | refine ClL.cons ?_ ?_ | refine Cl.tup ?_ | refine Cl.agg ?_ | exact ClO.RO _ _)) : Cl _) _, ⟨⟨by decide, rfl⟩, ⟨by decide, ClO.fE _ _⟩, ⟨by decide, rfl⟩, ⟨by decide, rfl⟩, ⟨by decide, rfl⟩, trivial⟩⟩
  | some b0 =>
    refine CallOK.fit (by decide) ?_
    refine callOK Try.call41 Try.func41 Try.ntmps41 rfl ?_
    (conv => arg 4; whnf); repeat (refine ⟨rfl, ?_⟩; conv => arg 4; whnf)
    refine callOK Try.call66 Try.func66 Try.ntmps66 rfl ?_
    (conv => arg 4; whnf); repeat (refine ⟨rfl, ?_⟩; conv => arg 4; whnf)
    refine ret_in ?_
    show holds _ _ _ _
    conv => arg 4; whnf
    refine call0 (tpMay (s := k) (p := v) hk) (by (repeat' (first | with_reducible assumption | exact ClL.nil | exact Cl.int _ _ | exact Cl.bool _ | exact Cl.bl _ | exact Cl.bs _ | exact Cl.str _ | exact Cl.nils | exact Cl.nilp | exact Cl.rec _ | exact Cl.bat _ | exact Cl.recsV _ | exact Cl.strsV _ | exact Cl.intsV _ | exact Cl.req _ | exact Cl.rsp _ | exact Cl.reqA _ | exact Cl.rspA _ | exact Cl.batsV _ | exact Cl.prsV _ | exact Cl.atsV _ | exact Cl.entA _ _ | exact Cl.ent _ | exact Cl.rr _ _ | exact Cl.foundA _ | exact Cl.getB _ | exact Cl.encA _ | exact Cl.firstA _ | refine ClL.cons ?_ ?_ | refine Cl.tup ?_ | refine Cl.agg ?_ | exact ClO.RO _ _))) (by (repeat' (first | with_reducible assumption | exact ClL.nil | exact Cl.int _ _ | exact Cl.bool _ | exact Cl.bl _ | exact Cl.bs _ | exact Cl.str _ | exact Cl.nils | exact Cl.nilp | exact Cl.rec _ | exact Cl.bat _ | exact Cl.recsV _ | exact Cl.strsV _ | exact Cl.intsV _ | exact Cl.req _ | exact Cl.rsp _ | exact Cl.reqA _ | exact Cl.rspA _ | exact Cl.batsV _ | exact Cl.prsV _ | exact Cl.atsV _ | exact Cl.entA _ _ | exact Cl.ent _ | exact Cl.rr _ _ | exact Cl.foundA _ | exact Cl.getB _ | exact Cl.encA _ | exact Cl.firstA _ | refine ClL.cons ?_ ?_ | refine Cl.tup ?_ | refine Cl.agg ?_ | exact ClO.RO _ _))) ?_
    (conv => arg 4; whnf); repeat (refine ⟨rfl, ?_⟩; conv => arg 4; whnf)
    refine br_yes (by rw [ho]; rfl) ?_
    (conv => arg 4; whnf); repeat (refine ⟨rfl, ?_⟩; conv => arg 4; whnf)
    exact ⟨by decide, Le.refl _ _, ⟨⟨_, rfl, LeO.refl _ _⟩, ⟨_, rfl, LeO.refl _ _⟩, ⟨_, rfl, LeO.refl _ _⟩, ⟨_, rfl, LeO.refl _ _⟩, ⟨_, rfl, LeO.refl _ _⟩, ⟨_, rfl, LeO.refl _ _⟩, trivial⟩, (by (repeat' (first | with_reducible assumption | exact ClL.nil | exact Cl.int _ _ | exact Cl.bool _ | exact Cl.bl _ | exact Cl.bs _ | exact Cl.str _ | exact Cl.nils | exact Cl.nilp | exact Cl.rec _ | exact Cl.bat _ | exact Cl.recsV _ | exact Cl.strsV _ | exact Cl.intsV _ | exact Cl.req _ | exact Cl.rsp _ | exact Cl.reqA _ | exact Cl.rspA _ | exact Cl.batsV _ | exact Cl.prsV _ | exact Cl.atsV _ | exact Cl.entA _ _ | exact Cl.ent _ | exact Cl.rr _ _ | exact Cl.foundA _ | exact Cl.getB _ | exact Cl.encA _ | exact Cl.firstA _ | refine ClL.cons ?_ ?_ | refine Cl.tup ?_ | refine Cl.agg ?_ | exact ClO.RO _ _)) : Cl _) _, ⟨⟨by decide, rfl⟩, ⟨by decide, ClO.fE _ _⟩, ⟨by decide, rfl⟩, ⟨by decide, rfl⟩, ⟨by decide, rfl⟩, ⟨by decide, ClO.fil _ _⟩, trivial⟩⟩
theorem createThere {l m : List Rw} {k : List UInt8} {v : Int} {fs : Option (List UInt8)} {room lf op : Int} (r : RelT l m) (hk : k.length ≤ 1000000) (ho : okT (k, v) = true) (hn : findM l k ≠ none) :
    CallOK Try.prog 41 [.ptr 5 0, .str k, .int .i64 v] (TT m fs room lf op) 6 (Out (.int .i64 6) (TT m fs room lf op) 6) := by
  cases fs with
  | none =>
    refine CallOK.fit (by decide) ?_
    refine callOK Try.call41 Try.func41 Try.ntmps41 rfl ?_
    (conv => arg 4; whnf); repeat (refine ⟨rfl, ?_⟩; conv => arg 4; whnf)
    refine callOK Try.call66 Try.func66 Try.ntmps66 rfl ?_
    (conv => arg 4; whnf); repeat (refine ⟨rfl, ?_⟩; conv => arg 4; whnf)
    refine ret_in ?_
    show holds _ _ _ _
    conv => arg 4; whnf
    refine call0 (tpMay (s := k) (p := v) hk) (by (repeat' (first | with_reducible assumption | exact ClL.nil | exact Cl.int _ _ | exact Cl.bool _ | exact Cl.bl _ | exact Cl.bs _ | exact Cl.str _ | exact Cl.nils | exact Cl.nilp | exact Cl.rec _ | exact Cl.bat _ | exact Cl.recsV _ | exact Cl.strsV _ | exact Cl.intsV _ | exact Cl.req _ | exact Cl.rsp _ | exact Cl.reqA _ | exact Cl.rspA _ | exact Cl.batsV _ | exact Cl.prsV _ | exact Cl.atsV _ | exact Cl.entA _ _ | exact Cl.ent _ | exact Cl.rr _ _ | exact Cl.foundA _ | exact Cl.getB _ | exact Cl.encA _ | exact Cl.firstA _ | refine ClL.cons ?_ ?_ | refine Cl.tup ?_ | refine Cl.agg ?_ | exact ClO.RO _ _))) (by (repeat' (first | with_reducible assumption | exact ClL.nil | exact Cl.int _ _ | exact Cl.bool _ | exact Cl.bl _ | exact Cl.bs _ | exact Cl.str _ | exact Cl.nils | exact Cl.nilp | exact Cl.rec _ | exact Cl.bat _ | exact Cl.recsV _ | exact Cl.strsV _ | exact Cl.intsV _ | exact Cl.req _ | exact Cl.rsp _ | exact Cl.reqA _ | exact Cl.rspA _ | exact Cl.batsV _ | exact Cl.prsV _ | exact Cl.atsV _ | exact Cl.entA _ _ | exact Cl.ent _ | exact Cl.rr _ _ | exact Cl.foundA _ | exact Cl.getB _ | exact Cl.encA _ | exact Cl.firstA _ | refine ClL.cons ?_ ?_ | refine Cl.tup ?_ | refine Cl.agg ?_ | exact ClO.RO _ _))) ?_
    (conv => arg 4; whnf); repeat (refine ⟨rfl, ?_⟩; conv => arg 4; whnf)
    refine br_no (by rw [ho]; rfl) ?_
    (conv => arg 4; whnf); repeat (refine ⟨rfl, ?_⟩; conv => arg 4; whnf)
    refine nth_in (.tup [.int .i64 ((findM l k).getD 0), .bool (findM l k).isSome]) ⟨by decide, by
      have : lookV (fE m) (.str k) (.int .i64 0) true = .tup [.int .i64 ((findM l k).getD 0), .bool (findM l k).isSome] := by rw [look_fE2, r.look]
      exact congrArg some this⟩ ?_
    (conv => arg 4; whnf); repeat (refine ⟨rfl, ?_⟩; conv => arg 4; whnf)
    refine need_in (askF m k) ?_
    (conv => arg 4; whnf); repeat (refine ⟨rfl, ?_⟩; conv => arg 4; whnf)
    refine br_yes (by cases h : findM l k with | none => exact absurd h hn | some _ => rfl) ?_
    (conv => arg 4; whnf); repeat (refine ⟨rfl, ?_⟩; conv => arg 4; whnf)
    exact ⟨by decide, Le.refl _ _, ⟨⟨_, rfl, LeO.refl _ _⟩, ⟨_, rfl, LeO.refl _ _⟩, ⟨_, rfl, LeO.refl _ _⟩, ⟨_, rfl, LeO.refl _ _⟩, ⟨_, rfl, LeO.refl _ _⟩, trivial⟩, (by (repeat' (first | with_reducible assumption | exact ClL.nil | exact Cl.int _ _ | exact Cl.bool _ | exact Cl.bl _ | exact Cl.bs _ | exact Cl.str _ | exact Cl.nils | exact Cl.nilp | exact Cl.rec _ | exact Cl.bat _ | exact Cl.recsV _ | exact Cl.strsV _ | exact Cl.intsV _ | exact Cl.req _ | exact Cl.rsp _ | exact Cl.reqA _ | exact Cl.rspA _ | exact Cl.batsV _ | exact Cl.prsV _ | exact Cl.atsV _ | exact Cl.entA _ _ | exact Cl.ent _ | exact Cl.rr _ _ | exact Cl.foundA _ | exact Cl.getB _ | exact Cl.encA _ | exact Cl.firstA _ | refine ClL.cons ?_ ?_ | refine Cl.tup ?_ | refine Cl.agg ?_ | exact ClO.RO _ _)) : Cl _) _, ⟨⟨by decide, rfl⟩, ⟨by decide, ClO.fE _ _⟩, ⟨by decide, rfl⟩, ⟨by decide, rfl⟩, ⟨by decide, rfl⟩, trivial⟩⟩
  | some b0 =>
    refine CallOK.fit (by decide) ?_
    refine callOK Try.call41 Try.func41 Try.ntmps41 rfl ?_
    (conv => arg 4; whnf); repeat (refine ⟨rfl, ?_⟩; conv => arg 4; whnf)
    refine callOK Try.call66 Try.func66 Try.ntmps66 rfl ?_
    (conv => arg 4; whnf); repeat (refine ⟨rfl, ?_⟩; conv => arg 4; whnf)
    refine ret_in ?_
    show holds _ _ _ _
    conv => arg 4; whnf
    refine call0 (tpMay (s := k) (p := v) hk) (by (repeat' (first | with_reducible assumption | exact ClL.nil | exact Cl.int _ _ | exact Cl.bool _ | exact Cl.bl _ | exact Cl.bs _ | exact Cl.str _ | exact Cl.nils | exact Cl.nilp | exact Cl.rec _ | exact Cl.bat _ | exact Cl.recsV _ | exact Cl.strsV _ | exact Cl.intsV _ | exact Cl.req _ | exact Cl.rsp _ | exact Cl.reqA _ | exact Cl.rspA _ | exact Cl.batsV _ | exact Cl.prsV _ | exact Cl.atsV _ | exact Cl.entA _ _ | exact Cl.ent _ | exact Cl.rr _ _ | exact Cl.foundA _ | exact Cl.getB _ | exact Cl.encA _ | exact Cl.firstA _ | refine ClL.cons ?_ ?_ | refine Cl.tup ?_ | refine Cl.agg ?_ | exact ClO.RO _ _))) (by (repeat' (first | with_reducible assumption | exact ClL.nil | exact Cl.int _ _ | exact Cl.bool _ | exact Cl.bl _ | exact Cl.bs _ | exact Cl.str _ | exact Cl.nils | exact Cl.nilp | exact Cl.rec _ | exact Cl.bat _ | exact Cl.recsV _ | exact Cl.strsV _ | exact Cl.intsV _ | exact Cl.req _ | exact Cl.rsp _ | exact Cl.reqA _ | exact Cl.rspA _ | exact Cl.batsV _ | exact Cl.prsV _ | exact Cl.atsV _ | exact Cl.entA _ _ | exact Cl.ent _ | exact Cl.rr _ _ | exact Cl.foundA _ | exact Cl.getB _ | exact Cl.encA _ | exact Cl.firstA _ | refine ClL.cons ?_ ?_ | refine Cl.tup ?_ | refine Cl.agg ?_ | exact ClO.RO _ _))) ?_
    (conv => arg 4; whnf); repeat (refine ⟨rfl, ?_⟩; conv => arg 4; whnf)
    refine br_no (by rw [ho]; rfl) ?_
    (conv => arg 4; whnf); repeat (refine ⟨rfl, ?_⟩; conv => arg 4; whnf)
    refine nth_in (.tup [.int .i64 ((findM l k).getD 0), .bool (findM l k).isSome]) ⟨by decide, by
      have : lookV (fE m) (.str k) (.int .i64 0) true = .tup [.int .i64 ((findM l k).getD 0), .bool (findM l k).isSome] := by rw [look_fE2, r.look]
      exact congrArg some this⟩ ?_
    (conv => arg 4; whnf); repeat (refine ⟨rfl, ?_⟩; conv => arg 4; whnf)
    refine need_in (askF m k) ?_
    (conv => arg 4; whnf); repeat (refine ⟨rfl, ?_⟩; conv => arg 4; whnf)
    refine br_yes (by cases h : findM l k with | none => exact absurd h hn | some _ => rfl) ?_
    (conv => arg 4; whnf); repeat (refine ⟨rfl, ?_⟩; conv => arg 4; whnf)
    exact ⟨by decide, Le.refl _ _, ⟨⟨_, rfl, LeO.refl _ _⟩, ⟨_, rfl, LeO.refl _ _⟩, ⟨_, rfl, LeO.refl _ _⟩, ⟨_, rfl, LeO.refl _ _⟩, ⟨_, rfl, LeO.refl _ _⟩, ⟨_, rfl, LeO.refl _ _⟩, trivial⟩, (by (repeat' (first | with_reducible assumption | exact ClL.nil | exact Cl.int _ _ | exact Cl.bool _ | exact Cl.bl _ | exact Cl.bs _ | exact Cl.str _ | exact Cl.nils | exact Cl.nilp | exact Cl.rec _ | exact Cl.bat _ | exact Cl.recsV _ | exact Cl.strsV _ | exact Cl.intsV _ | exact Cl.req _ | exact Cl.rsp _ | exact Cl.reqA _ | exact Cl.rspA _ | exact Cl.batsV _ | exact Cl.prsV _ | exact Cl.atsV _ | exact Cl.entA _ _ | exact Cl.ent _ | exact Cl.rr _ _ | exact Cl.foundA _ | exact Cl.getB _ | exact Cl.encA _ | exact Cl.firstA _ | refine ClL.cons ?_ ?_ | refine Cl.tup ?_ | refine Cl.agg ?_ | exact ClO.RO _ _)) : Cl _) _, ⟨⟨by decide, rfl⟩, ⟨by decide, ClO.fE _ _⟩, ⟨by decide, rfl⟩, ⟨by decide, rfl⟩, ⟨by decide, rfl⟩, ⟨by decide, ClO.fil _ _⟩, trivial⟩⟩
theorem createBad {l m : List Rw} {k : List UInt8} {v : Int} {fs : Option (List UInt8)} {room lf op : Int} (r : RelT l m) (hk : k.length ≤ 1000000) (ho : okT (k, v) = true) (hn : findM l k = none) (hl : 20 ≤ l.length) :
    CallOK Try.prog 41 [.ptr 5 0, .str k, .int .i64 v] (TT m fs room lf op) 6 (Out (.int .i64 2) (TT m fs room lf op) 6) := by
  cases fs with
  | none =>
    refine CallOK.fit (by decide) ?_
    refine callOK Try.call41 Try.func41 Try.ntmps41 rfl ?_
    (conv => arg 4; whnf); repeat (refine ⟨rfl, ?_⟩; conv => arg 4; whnf)
    refine callOK Try.call66 Try.func66 Try.ntmps66 rfl ?_
    (conv => arg 4; whnf); repeat (refine ⟨rfl, ?_⟩; conv => arg 4; whnf)
    refine ret_in ?_
    show holds _ _ _ _
    conv => arg 4; whnf
    refine call0 (tpMay (s := k) (p := v) hk) (by (repeat' (first | with_reducible assumption | exact ClL.nil | exact Cl.int _ _ | exact Cl.bool _ | exact Cl.bl _ | exact Cl.bs _ | exact Cl.str _ | exact Cl.nils | exact Cl.nilp | exact Cl.rec _ | exact Cl.bat _ | exact Cl.recsV _ | exact Cl.strsV _ | exact Cl.intsV _ | exact Cl.req _ | exact Cl.rsp _ | exact Cl.reqA _ | exact Cl.rspA _ | exact Cl.batsV _ | exact Cl.prsV _ | exact Cl.atsV _ | exact Cl.entA _ _ | exact Cl.ent _ | exact Cl.rr _ _ | exact Cl.foundA _ | exact Cl.getB _ | exact Cl.encA _ | exact Cl.firstA _ | refine ClL.cons ?_ ?_ | refine Cl.tup ?_ | refine Cl.agg ?_ | exact ClO.RO _ _))) (by (repeat' (first | with_reducible assumption | exact ClL.nil | exact Cl.int _ _ | exact Cl.bool _ | exact Cl.bl _ | exact Cl.bs _ | exact Cl.str _ | exact Cl.nils | exact Cl.nilp | exact Cl.rec _ | exact Cl.bat _ | exact Cl.recsV _ | exact Cl.strsV _ | exact Cl.intsV _ | exact Cl.req _ | exact Cl.rsp _ | exact Cl.reqA _ | exact Cl.rspA _ | exact Cl.batsV _ | exact Cl.prsV _ | exact Cl.atsV _ | exact Cl.entA _ _ | exact Cl.ent _ | exact Cl.rr _ _ | exact Cl.foundA _ | exact Cl.getB _ | exact Cl.encA _ | exact Cl.firstA _ | refine ClL.cons ?_ ?_ | refine Cl.tup ?_ | refine Cl.agg ?_ | exact ClO.RO _ _))) ?_
    (conv => arg 4; whnf); repeat (refine ⟨rfl, ?_⟩; conv => arg 4; whnf)
    refine br_no (by rw [ho]; rfl) ?_
    (conv => arg 4; whnf); repeat (refine ⟨rfl, ?_⟩; conv => arg 4; whnf)
    refine nth_in (.tup [.int .i64 ((findM l k).getD 0), .bool (findM l k).isSome]) ⟨by decide, by
      have : lookV (fE m) (.str k) (.int .i64 0) true = .tup [.int .i64 ((findM l k).getD 0), .bool (findM l k).isSome] := by rw [look_fE2, r.look]
      exact congrArg some this⟩ ?_
    (conv => arg 4; whnf); repeat (refine ⟨rfl, ?_⟩; conv => arg 4; whnf)
    refine need_in (askF m k) ?_
    (conv => arg 4; whnf); repeat (refine ⟨rfl, ?_⟩; conv => arg 4; whnf)
    refine br_no (by rw [hn]; rfl) ?_
    (conv => arg 4; whnf); repeat (refine ⟨rfl, ?_⟩; conv => arg 4; whnf)
    refine br_yes (by
      have : (fE m).length = l.length := by rw [fE, List.length_map, r.len]
      rw [this]; simp; omega) ?_
    (conv => arg 4; whnf); repeat (refine ⟨rfl, ?_⟩; conv => arg 4; whnf)
    exact ⟨by decide, Le.refl _ _, ⟨⟨_, rfl, LeO.refl _ _⟩, ⟨_, rfl, LeO.refl _ _⟩, ⟨_, rfl, LeO.refl _ _⟩, ⟨_, rfl, LeO.refl _ _⟩, ⟨_, rfl, LeO.refl _ _⟩, trivial⟩, (by (repeat' (first | with_reducible assumption | exact ClL.nil | exact Cl.int _ _ | exact Cl.bool _ | exact Cl.bl _ | exact Cl.bs _ | exact Cl.str _ | exact Cl.nils | exact Cl.nilp | exact Cl.rec _ | exact Cl.bat _ | exact Cl.recsV _ | exact Cl.strsV _ | exact Cl.intsV _ | exact Cl.req _ | exact Cl.rsp _ | exact Cl.reqA _ | exact Cl.rspA _ | exact Cl.batsV _ | exact Cl.prsV _ | exact Cl.atsV _ | exact Cl.entA _ _ | exact Cl.ent _ | exact Cl.rr _ _ | exact Cl.foundA _ | exact Cl.getB _ | exact Cl.encA _ | exact Cl.firstA _ | refine ClL.cons ?_ ?_ | refine Cl.tup ?_ | refine Cl.agg ?_ | exact ClO.RO _ _)) : Cl _) _, ⟨⟨by decide, rfl⟩, ⟨by decide, ClO.fE _ _⟩, ⟨by decide, rfl⟩, ⟨by decide, rfl⟩, ⟨by decide, rfl⟩, trivial⟩⟩
  | some b0 =>
    refine CallOK.fit (by decide) ?_
    refine callOK Try.call41 Try.func41 Try.ntmps41 rfl ?_
    (conv => arg 4; whnf); repeat (refine ⟨rfl, ?_⟩; conv => arg 4; whnf)
    refine callOK Try.call66 Try.func66 Try.ntmps66 rfl ?_
    (conv => arg 4; whnf); repeat (refine ⟨rfl, ?_⟩; conv => arg 4; whnf)
    refine ret_in ?_
    show holds _ _ _ _
    conv => arg 4; whnf
    refine call0 (tpMay (s := k) (p := v) hk) (by (repeat' (first | with_reducible assumption | exact ClL.nil | exact Cl.int _ _ | exact Cl.bool _ | exact Cl.bl _ | exact Cl.bs _ | exact Cl.str _ | exact Cl.nils | exact Cl.nilp | exact Cl.rec _ | exact Cl.bat _ | exact Cl.recsV _ | exact Cl.strsV _ | exact Cl.intsV _ | exact Cl.req _ | exact Cl.rsp _ | exact Cl.reqA _ | exact Cl.rspA _ | exact Cl.batsV _ | exact Cl.prsV _ | exact Cl.atsV _ | exact Cl.entA _ _ | exact Cl.ent _ | exact Cl.rr _ _ | exact Cl.foundA _ | exact Cl.getB _ | exact Cl.encA _ | exact Cl.firstA _ | refine ClL.cons ?_ ?_ | refine Cl.tup ?_ | refine Cl.agg ?_ | exact ClO.RO _ _))) (by (repeat' (first | with_reducible assumption | exact ClL.nil | exact Cl.int _ _ | exact Cl.bool _ | exact Cl.bl _ | exact Cl.bs _ | exact Cl.str _ | exact Cl.nils | exact Cl.nilp | exact Cl.rec _ | exact Cl.bat _ | exact Cl.recsV _ | exact Cl.strsV _ | exact Cl.intsV _ | exact Cl.req _ | exact Cl.rsp _ | exact Cl.reqA _ | exact Cl.rspA _ | exact Cl.batsV _ | exact Cl.prsV _ | exact Cl.atsV _ | exact Cl.entA _ _ | exact Cl.ent _ | exact Cl.rr _ _ | exact Cl.foundA _ | exact Cl.getB _ | exact Cl.encA _ | exact Cl.firstA _ | refine ClL.cons ?_ ?_ | refine Cl.tup ?_ | refine Cl.agg ?_ | exact ClO.RO _ _))) ?_
    (conv => arg 4; whnf); repeat (refine ⟨rfl, ?_⟩; conv => arg 4; whnf)
    refine br_no (by rw [ho]; rfl) ?_
    (conv => arg 4; whnf); repeat (refine ⟨rfl, ?_⟩; conv => arg 4; whnf)
    refine nth_in (.tup [.int .i64 ((findM l k).getD 0), .bool (findM l k).isSome]) ⟨by decide, by
      have : lookV (fE m) (.str k) (.int .i64 0) true = .tup [.int .i64 ((findM l k).getD 0), .bool (findM l k).isSome] := by rw [look_fE2, r.look]
      exact congrArg some this⟩ ?_
    (conv => arg 4; whnf); repeat (refine ⟨rfl, ?_⟩; conv => arg 4; whnf)
    refine need_in (askF m k) ?_
    (conv => arg 4; whnf); repeat (refine ⟨rfl, ?_⟩; conv => arg 4; whnf)
    refine br_no (by rw [hn]; rfl) ?_
    (conv => arg 4; whnf); repeat (refine ⟨rfl, ?_⟩; conv => arg 4; whnf)
    refine br_yes (by
      have : (fE m).length = l.length := by rw [fE, List.length_map, r.len]
      rw [this]; simp; omega) ?_
    (conv => arg 4; whnf); repeat (refine ⟨rfl, ?_⟩; conv => arg 4; whnf)
    exact ⟨by decide, Le.refl _ _, ⟨⟨_, rfl, LeO.refl _ _⟩, ⟨_, rfl, LeO.refl _ _⟩, ⟨_, rfl, LeO.refl _ _⟩, ⟨_, rfl, LeO.refl _ _⟩, ⟨_, rfl, LeO.refl _ _⟩, ⟨_, rfl, LeO.refl _ _⟩, trivial⟩, (by (repeat' (first | with_reducible assumption | exact ClL.nil | exact Cl.int _ _ | exact Cl.bool _ | exact Cl.bl _ | exact Cl.bs _ | exact Cl.str _ | exact Cl.nils | exact Cl.nilp | exact Cl.rec _ | exact Cl.bat _ | exact Cl.recsV _ | exact Cl.strsV _ | exact Cl.intsV _ | exact Cl.req _ | exact Cl.rsp _ | exact Cl.reqA _ | exact Cl.rspA _ | exact Cl.batsV _ | exact Cl.prsV _ | exact Cl.atsV _ | exact Cl.entA _ _ | exact Cl.ent _ | exact Cl.rr _ _ | exact Cl.foundA _ | exact Cl.getB _ | exact Cl.encA _ | exact Cl.firstA _ | refine ClL.cons ?_ ?_ | refine Cl.tup ?_ | refine Cl.agg ?_ | exact ClO.RO _ _)) : Cl _) _, ⟨⟨by decide, rfl⟩, ⟨by decide, ClO.fE _ _⟩, ⟨by decide, rfl⟩, ⟨by decide, rfl⟩, ⟨by decide, rfl⟩, ⟨by decide, ClO.fil _ _⟩, trivial⟩⟩
theorem deleteNone {l m : List Rw} {k : List UInt8} {v : Int} {fs : Option (List UInt8)} {room lf op : Int} (r : RelT l m) (hn : findM l k = none) :
    CallOK Try.prog 42 [.ptr 5 0, .str k] (TT m fs room lf op) 6 (Out (.int .i64 5) (TT m fs room lf op) 6) := by
  cases fs with
  | none =>
    refine CallOK.fit (by decide) ?_
    refine callOK Try.call42 Try.func42 Try.ntmps42 rfl ?_
    (conv => arg 4; whnf); repeat (refine ⟨rfl, ?_⟩; conv => arg 4; whnf)
    refine callOK Try.call40 Try.func40 Try.ntmps40 rfl ?_
    (conv => arg 4; whnf); repeat (refine ⟨rfl, ?_⟩; conv => arg 4; whnf)
    refine callOK Try.call66 Try.func66 Try.ntmps66 rfl ?_
    (conv => arg 4; whnf); repeat (refine ⟨rfl, ?_⟩; conv => arg 4; whnf)
    refine ret_in ?_
    show holds _ _ _ _
    conv => arg 4; whnf
    refine ret_in ?_
    show holds _ _ _ _
    conv => arg 4; whnf
    refine nth_in (.tup [.int .i64 ((findM l k).getD 0), .bool (findM l k).isSome]) ⟨by decide, by
      have : lookV (fE m) (.str k) (.int .i64 0) true = .tup [.int .i64 ((findM l k).getD 0), .bool (findM l k).isSome] := by rw [look_fE2, r.look]
      exact congrArg some this⟩ ?_
    (conv => arg 4; whnf); repeat (refine ⟨rfl, ?_⟩; conv => arg 4; whnf)
    refine need_in (askF m k) ?_
    (conv => arg 4; whnf); repeat (refine ⟨rfl, ?_⟩; conv => arg 4; whnf)
    refine br_yes (by rw [hn]; rfl) ?_
    (conv => arg 4; whnf); repeat (refine ⟨rfl, ?_⟩; conv => arg 4; whnf)
    exact ⟨by decide, Le.refl _ _, ⟨⟨_, rfl, LeO.refl _ _⟩, ⟨_, rfl, LeO.refl _ _⟩, ⟨_, rfl, LeO.refl _ _⟩, ⟨_, rfl, LeO.refl _ _⟩, ⟨_, rfl, LeO.refl _ _⟩, trivial⟩, (by (repeat' (first | with_reducible assumption | exact ClL.nil | exact Cl.int _ _ | exact Cl.bool _ | exact Cl.bl _ | exact Cl.bs _ | exact Cl.str _ | exact Cl.nils | exact Cl.nilp | exact Cl.rec _ | exact Cl.bat _ | exact Cl.recsV _ | exact Cl.strsV _ | exact Cl.intsV _ | exact Cl.req _ | exact Cl.rsp _ | exact Cl.reqA _ | exact Cl.rspA _ | exact Cl.batsV _ | exact Cl.prsV _ | exact Cl.atsV _ | exact Cl.entA _ _ | exact Cl.ent _ | exact Cl.rr _ _ | exact Cl.foundA _ | exact Cl.getB _ | exact Cl.encA _ | exact Cl.firstA _ | refine ClL.cons ?_ ?_ | refine Cl.tup ?_ | refine Cl.agg ?_ | exact ClO.RO _ _)) : Cl _) _, ⟨⟨by decide, rfl⟩, ⟨by decide, ClO.fE _ _⟩, ⟨by decide, rfl⟩, ⟨by decide, rfl⟩, ⟨by decide, rfl⟩, trivial⟩⟩
  | some b0 =>
    refine CallOK.fit (by decide) ?_
    refine callOK Try.call42 Try.func42 Try.ntmps42 rfl ?_
    (conv => arg 4; whnf); repeat (refine ⟨rfl, ?_⟩; conv => arg 4; whnf)
    refine callOK Try.call40 Try.func40 Try.ntmps40 rfl ?_
    (conv => arg 4; whnf); repeat (refine ⟨rfl, ?_⟩; conv => arg 4; whnf)
    refine callOK Try.call66 Try.func66 Try.ntmps66 rfl ?_
    (conv => arg 4; whnf); repeat (refine ⟨rfl, ?_⟩; conv => arg 4; whnf)
    refine ret_in ?_
    show holds _ _ _ _
    conv => arg 4; whnf
    refine ret_in ?_
    show holds _ _ _ _
    conv => arg 4; whnf
    refine nth_in (.tup [.int .i64 ((findM l k).getD 0), .bool (findM l k).isSome]) ⟨by decide, by
      have : lookV (fE m) (.str k) (.int .i64 0) true = .tup [.int .i64 ((findM l k).getD 0), .bool (findM l k).isSome] := by rw [look_fE2, r.look]
      exact congrArg some this⟩ ?_
    (conv => arg 4; whnf); repeat (refine ⟨rfl, ?_⟩; conv => arg 4; whnf)
    refine need_in (askF m k) ?_
    (conv => arg 4; whnf); repeat (refine ⟨rfl, ?_⟩; conv => arg 4; whnf)
    refine br_yes (by rw [hn]; rfl) ?_
    (conv => arg 4; whnf); repeat (refine ⟨rfl, ?_⟩; conv => arg 4; whnf)
    exact ⟨by decide, Le.refl _ _, ⟨⟨_, rfl, LeO.refl _ _⟩, ⟨_, rfl, LeO.refl _ _⟩, ⟨_, rfl, LeO.refl _ _⟩, ⟨_, rfl, LeO.refl _ _⟩, ⟨_, rfl, LeO.refl _ _⟩, ⟨_, rfl, LeO.refl _ _⟩, trivial⟩, (by (repeat' (first | with_reducible assumption | exact ClL.nil | exact Cl.int _ _ | exact Cl.bool _ | exact Cl.bl _ | exact Cl.bs _ | exact Cl.str _ | exact Cl.nils | exact Cl.nilp | exact Cl.rec _ | exact Cl.bat _ | exact Cl.recsV _ | exact Cl.strsV _ | exact Cl.intsV _ | exact Cl.req _ | exact Cl.rsp _ | exact Cl.reqA _ | exact Cl.rspA _ | exact Cl.batsV _ | exact Cl.prsV _ | exact Cl.atsV _ | exact Cl.entA _ _ | exact Cl.ent _ | exact Cl.rr _ _ | exact Cl.foundA _ | exact Cl.getB _ | exact Cl.encA _ | exact Cl.firstA _ | refine ClL.cons ?_ ?_ | refine Cl.tup ?_ | refine Cl.agg ?_ | exact ClO.RO _ _)) : Cl _) _, ⟨⟨by decide, rfl⟩, ⟨by decide, ClO.fE _ _⟩, ⟨by decide, rfl⟩, ⟨by decide, rfl⟩, ⟨by decide, rfl⟩, ⟨by decide, ClO.fil _ _⟩, trivial⟩⟩
theorem partsOf {l m : List Rw} {k : List UInt8} {v : Int} {fs : Option (List UInt8)} {room lf op : Int} (r : RelT l m) :
    CallOK Try.prog 38 [.ptr 5 0, .str k] (TT m fs room lf op) 6 (Out (.tup [.int .i64 ((findM l k).getD 0), .bool (findM l k).isSome]) (TT m fs room lf op) 6) := by
  cases fs with
  | none =>
    refine CallOK.fit (by decide) ?_
    refine callOK Try.call38 Try.func38 Try.ntmps38 rfl ?_
    (conv => arg 4; whnf); repeat (refine ⟨rfl, ?_⟩; conv => arg 4; whnf)
    refine callOK Try.call66 Try.func66 Try.ntmps66 rfl ?_
    (conv => arg 4; whnf); repeat (refine ⟨rfl, ?_⟩; conv => arg 4; whnf)
    refine ret_in ?_
    show holds _ _ _ _
    conv => arg 4; whnf
    refine nth_in (.tup [.int .i64 ((findM l k).getD 0), .bool (findM l k).isSome]) ⟨by decide, by
      have : lookV (fE m) (.str k) (.int .i64 0) true = .tup [.int .i64 ((findM l k).getD 0), .bool (findM l k).isSome] := by rw [look_fE2, r.look]
      exact congrArg some this⟩ ?_
    (conv => arg 4; whnf); repeat (refine ⟨rfl, ?_⟩; conv => arg 4; whnf)
    refine need_in (askF m k) ?_
    (conv => arg 4; whnf); repeat (refine ⟨rfl, ?_⟩; conv => arg 4; whnf)
    exact ⟨by decide, Le.refl _ _, ⟨⟨_, rfl, LeO.refl _ _⟩, ⟨_, rfl, LeO.refl _ _⟩, ⟨_, rfl, LeO.refl _ _⟩, ⟨_, rfl, LeO.refl _ _⟩, ⟨_, rfl, LeO.refl _ _⟩, trivial⟩, (by (repeat' (first | with_reducible assumption | exact ClL.nil | exact Cl.int _ _ | exact Cl.bool _ | exact Cl.bl _ | exact Cl.bs _ | exact Cl.str _ | exact Cl.nils | exact Cl.nilp | exact Cl.rec _ | exact Cl.bat _ | exact Cl.recsV _ | exact Cl.strsV _ | exact Cl.intsV _ | exact Cl.req _ | exact Cl.rsp _ | exact Cl.reqA _ | exact Cl.rspA _ | exact Cl.batsV _ | exact Cl.prsV _ | exact Cl.atsV _ | exact Cl.entA _ _ | exact Cl.ent _ | exact Cl.rr _ _ | exact Cl.foundA _ | exact Cl.getB _ | exact Cl.encA _ | exact Cl.firstA _ | refine ClL.cons ?_ ?_ | refine Cl.tup ?_ | refine Cl.agg ?_ | exact ClO.RO _ _)) : Cl _) _, ⟨⟨by decide, rfl⟩, ⟨by decide, ClO.fE _ _⟩, ⟨by decide, rfl⟩, ⟨by decide, rfl⟩, ⟨by decide, rfl⟩, trivial⟩⟩
  | some b0 =>
    refine CallOK.fit (by decide) ?_
    refine callOK Try.call38 Try.func38 Try.ntmps38 rfl ?_
    (conv => arg 4; whnf); repeat (refine ⟨rfl, ?_⟩; conv => arg 4; whnf)
    refine callOK Try.call66 Try.func66 Try.ntmps66 rfl ?_
    (conv => arg 4; whnf); repeat (refine ⟨rfl, ?_⟩; conv => arg 4; whnf)
    refine ret_in ?_
    show holds _ _ _ _
    conv => arg 4; whnf
    refine nth_in (.tup [.int .i64 ((findM l k).getD 0), .bool (findM l k).isSome]) ⟨by decide, by
      have : lookV (fE m) (.str k) (.int .i64 0) true = .tup [.int .i64 ((findM l k).getD 0), .bool (findM l k).isSome] := by rw [look_fE2, r.look]
      exact congrArg some this⟩ ?_
    (conv => arg 4; whnf); repeat (refine ⟨rfl, ?_⟩; conv => arg 4; whnf)
    refine need_in (askF m k) ?_
    (conv => arg 4; whnf); repeat (refine ⟨rfl, ?_⟩; conv => arg 4; whnf)
    exact ⟨by decide, Le.refl _ _, ⟨⟨_, rfl, LeO.refl _ _⟩, ⟨_, rfl, LeO.refl _ _⟩, ⟨_, rfl, LeO.refl _ _⟩, ⟨_, rfl, LeO.refl _ _⟩, ⟨_, rfl, LeO.refl _ _⟩, ⟨_, rfl, LeO.refl _ _⟩, trivial⟩, (by (repeat' (first | with_reducible assumption | exact ClL.nil | exact Cl.int _ _ | exact Cl.bool _ | exact Cl.bl _ | exact Cl.bs _ | exact Cl.str _ | exact Cl.nils | exact Cl.nilp | exact Cl.rec _ | exact Cl.bat _ | exact Cl.recsV _ | exact Cl.strsV _ | exact Cl.intsV _ | exact Cl.req _ | exact Cl.rsp _ | exact Cl.reqA _ | exact Cl.rspA _ | exact Cl.batsV _ | exact Cl.prsV _ | exact Cl.atsV _ | exact Cl.entA _ _ | exact Cl.ent _ | exact Cl.rr _ _ | exact Cl.foundA _ | exact Cl.getB _ | exact Cl.encA _ | exact Cl.firstA _ | refine ClL.cons ?_ ?_ | refine Cl.tup ?_ | refine Cl.agg ?_ | exact ClO.RO _ _)) : Cl _) _, ⟨⟨by decide, rfl⟩, ⟨by decide, ClO.fE _ _⟩, ⟨by decide, rfl⟩, ⟨by decide, rfl⟩, ⟨by decide, rfl⟩, ⟨by decide, ClO.fil _ _⟩, trivial⟩⟩
theorem deadNo {l m : List Rw} {k : List UInt8} {v : Int} {fs : Option (List UInt8)} {room lf op : Int}  :
    CallOK Try.prog 40 [.ptr 5 0] (TT m fs room lf op) 6 (Out (.bl false) (TT m fs room lf op) 6) := by
  cases fs with
  | none =>
    refine CallOK.fit (by decide) ?_
    refine callOK Try.call40 Try.func40 Try.ntmps40 rfl ?_
    (conv => arg 4; whnf); repeat (refine ⟨rfl, ?_⟩; conv => arg 4; whnf)
    refine callOK Try.call66 Try.func66 Try.ntmps66 rfl ?_
    (conv => arg 4; whnf); repeat (refine ⟨rfl, ?_⟩; conv => arg 4; whnf)
    refine ret_in ?_
    show holds _ _ _ _
    conv => arg 4; whnf
    exact ⟨by decide, Le.refl _ _, ⟨⟨_, rfl, LeO.refl _ _⟩, ⟨_, rfl, LeO.refl _ _⟩, ⟨_, rfl, LeO.refl _ _⟩, ⟨_, rfl, LeO.refl _ _⟩, ⟨_, rfl, LeO.refl _ _⟩, trivial⟩, (by (repeat' (first | with_reducible assumption | exact ClL.nil | exact Cl.int _ _ | exact Cl.bool _ | exact Cl.bl _ | exact Cl.bs _ | exact Cl.str _ | exact Cl.nils | exact Cl.nilp | exact Cl.rec _ | exact Cl.bat _ | exact Cl.recsV _ | exact Cl.strsV _ | exact Cl.intsV _ | exact Cl.req _ | exact Cl.rsp _ | exact Cl.reqA _ | exact Cl.rspA _ | exact Cl.batsV _ | exact Cl.prsV _ | exact Cl.atsV _ | exact Cl.entA _ _ | exact Cl.ent _ | exact Cl.rr _ _ | exact Cl.foundA _ | exact Cl.getB _ | exact Cl.encA _ | exact Cl.firstA _ | refine ClL.cons ?_ ?_ | refine Cl.tup ?_ | refine Cl.agg ?_ | exact ClO.RO _ _)) : Cl _) _, ⟨⟨by decide, rfl⟩, ⟨by decide, ClO.fE _ _⟩, ⟨by decide, rfl⟩, ⟨by decide, rfl⟩, ⟨by decide, rfl⟩, trivial⟩⟩
  | some b0 =>
    refine CallOK.fit (by decide) ?_
    refine callOK Try.call40 Try.func40 Try.ntmps40 rfl ?_
    (conv => arg 4; whnf); repeat (refine ⟨rfl, ?_⟩; conv => arg 4; whnf)
    refine callOK Try.call66 Try.func66 Try.ntmps66 rfl ?_
    (conv => arg 4; whnf); repeat (refine ⟨rfl, ?_⟩; conv => arg 4; whnf)
    refine ret_in ?_
    show holds _ _ _ _
    conv => arg 4; whnf
    exact ⟨by decide, Le.refl _ _, ⟨⟨_, rfl, LeO.refl _ _⟩, ⟨_, rfl, LeO.refl _ _⟩, ⟨_, rfl, LeO.refl _ _⟩, ⟨_, rfl, LeO.refl _ _⟩, ⟨_, rfl, LeO.refl _ _⟩, ⟨_, rfl, LeO.refl _ _⟩, trivial⟩, (by (repeat' (first | with_reducible assumption | exact ClL.nil | exact Cl.int _ _ | exact Cl.bool _ | exact Cl.bl _ | exact Cl.bs _ | exact Cl.str _ | exact Cl.nils | exact Cl.nilp | exact Cl.rec _ | exact Cl.bat _ | exact Cl.recsV _ | exact Cl.strsV _ | exact Cl.intsV _ | exact Cl.req _ | exact Cl.rsp _ | exact Cl.reqA _ | exact Cl.rspA _ | exact Cl.batsV _ | exact Cl.prsV _ | exact Cl.atsV _ | exact Cl.entA _ _ | exact Cl.ent _ | exact Cl.rr _ _ | exact Cl.foundA _ | exact Cl.getB _ | exact Cl.encA _ | exact Cl.firstA _ | refine ClL.cons ?_ ?_ | refine Cl.tup ?_ | refine Cl.agg ?_ | exact ClO.RO _ _)) : Cl _) _, ⟨⟨by decide, rfl⟩, ⟨by decide, ClO.fE _ _⟩, ⟨by decide, rfl⟩, ⟨by decide, rfl⟩, ⟨by decide, rfl⟩, ⟨by decide, ClO.fil _ _⟩, trivial⟩⟩
theorem rem_good {l : List Rw} {k : List UInt8} (h : goodR l) : goodR (remR k l) := fun x hx => h x (rem_mem hx)
theorem rem_len (k : List UInt8) (l : List Rw) : (remR k l).length ≤ l.length := by
  rw [rem_eq, List.length_append, List.length_take, List.length_drop]; omega
theorem deleteOk {l m : List Rw} {k : List UInt8} {fs : Option (List UInt8)} {room lf op : Int} (r : RelT l m) (hg : goodR l) (hl : l.length ≤ 20) (hn : findM l k ≠ none) (hfs : ∀ b, fs = some b → b.length ≤ 100000) (hroom : 200000 ≤ room ∧ room ≤ 1099511627776) :
    CallOK Try.prog 42 [.ptr 5 0, .str k] (TT m fs room lf op) 6 (fun a h n => ∃ x : LO, True ∧ Out (.int .i64 0) (T6 (delM m k) (encR (remR k l)) room x.lf x.op) 9 a h n) := by
  have r2 := r.rem hn
  have hg2 := rem_good (k := k) hg
  have hl2 : (remR k l).length ≤ 1000 := by have := rem_len k l; omega
  refine CallOK.fit2E ?_
  refine callOK Try.call42 Try.func42 Try.ntmps42 rfl ?_
  (conv => arg 4; whnf); repeat (refine ⟨rfl, ?_⟩; conv => arg 4; whnf)
  refine callOK Try.call40 Try.func40 Try.ntmps40 rfl ?_
  (conv => arg 4; whnf); repeat (refine ⟨rfl, ?_⟩; conv => arg 4; whnf)
  refine callOK Try.call66 Try.func66 Try.ntmps66 rfl ?_
  (conv => arg 4; whnf); repeat (refine ⟨rfl, ?_⟩; conv => arg 4; whnf)
  refine ret_in ?_
  show holds _ _ _ _
  conv => arg 4; whnf
  refine ret_in ?_
  show holds _ _ _ _
  conv => arg 4; whnf
  refine nth_in (.tup [.int .i64 ((findM l k).getD 0), .bool (findM l k).isSome]) ⟨by decide, by
    have : lookV (fE m) (.str k) (.int .i64 0) true = .tup [.int .i64 ((findM l k).getD 0), .bool (findM l k).isSome] := by rw [look_fE2, r.look]
    exact congrArg some this⟩ ?_
  (conv => arg 4; whnf); repeat (refine ⟨rfl, ?_⟩; conv => arg 4; whnf)
  refine need_in (askF m k) ?_
  (conv => arg 4; whnf); repeat (refine ⟨rfl, ?_⟩; conv => arg 4; whnf)
  refine br_no (by cases h : findM l k with | none => exact absurd h hn | some _ => rfl) ?_
  (conv => arg 4; whnf); repeat (refine ⟨rfl, ?_⟩; conv => arg 4; whnf)
  cases fs with
  | none =>
    refine callG2 [4] (.map 6) ((6, .map (fE m)) :: TT m none room lf op) (mapsCloneI (k := 0) (es := fE m)) rfl ⟨⟨by simp, by rw [ClO.fE]; rfl⟩, trivial⟩ rfl (Le.refl _ _) ⟨⟨_, rfl, LeO.cl (ClO.fE _)⟩, ⟨_, rfl, LeO.refl _ _⟩, ⟨_, rfl, LeO.cl (ClO.fE _)⟩, ⟨_, rfl, LeO.refl _ _⟩, ⟨_, rfl, LeO.refl _ _⟩, ⟨_, rfl, LeO.refl _ _⟩, trivial⟩ ?_
    (conv => arg 4; whnf); repeat (refine ⟨rfl, ?_⟩; conv => arg 4; whnf)
    refine need_in (askF m k) ?_
    (conv => arg 4; whnf); repeat (refine ⟨rfl, ?_⟩; conv => arg 4; whnf)
    refine callGE2 [0, 1, 2, 3, 4, 5, 6] (fun _ => .int .i64 0) (fun x => T6 (delM m k) (encR (remR k l)) room x.lf x.op) (keepsC r2 hg2 hl2 hfs hroom) rfl ⟨⟨by simp, by rw [ClO.fE, ← del_fE]; rfl⟩, ⟨by simp, rfl⟩, ⟨by simp, by rw [ClO.fE]; rfl⟩, ⟨by simp, rfl⟩, ⟨by simp, rfl⟩, ⟨by simp, rfl⟩, trivial⟩ rfl (fun _ _ => Le.refl _ _) (fun _ _ => ⟨⟨_, rfl, LeO.refl _ _⟩, ⟨_, rfl, LeO.cl (ClO.fE _)⟩, ⟨_, rfl, LeO.refl _ _⟩, ⟨_, rfl, LeO.refl _ _⟩, ⟨_, rfl, LeO.refl _ _⟩, ⟨_, rfl, LeO.cl (ClO.fil _)⟩, trivial⟩) fun y _ => ?_
    (conv => arg 4; whnf); repeat (refine ⟨rfl, ?_⟩; conv => arg 4; whnf)
    exact ⟨y, trivial, [0, 1, 2, 3, 4, 5, 6, 7, 8], rfl, rfl, Le.refl _ _, ⟨⟨_, rfl, LeO.refl _ _⟩, ⟨_, rfl, LeO.lc (ClO.fE _)⟩, ⟨_, rfl, LeO.refl _ _⟩, ⟨_, rfl, LeO.refl _ _⟩, ⟨_, rfl, LeO.refl _ _⟩, ⟨_, rfl, LeO.lc (ClO.fil _)⟩, trivial⟩⟩
  | some b0 =>
    refine callG2 [4] (.map 6) ((6, .map (fE m)) :: TT m (some b0) room lf op) (mapsCloneI (k := 0) (es := fE m)) rfl ⟨⟨by simp, by rw [ClO.fE]; rfl⟩, trivial⟩ rfl (Le.refl _ _) ⟨⟨_, rfl, LeO.cl (ClO.fE _)⟩, ⟨_, rfl, LeO.refl _ _⟩, ⟨_, rfl, LeO.cl (ClO.fE _)⟩, ⟨_, rfl, LeO.refl _ _⟩, ⟨_, rfl, LeO.refl _ _⟩, ⟨_, rfl, LeO.refl _ _⟩, ⟨_, rfl, LeO.refl _ _⟩, trivial⟩ ?_
    (conv => arg 4; whnf); repeat (refine ⟨rfl, ?_⟩; conv => arg 4; whnf)
    refine need_in (askF m k) ?_
    (conv => arg 4; whnf); repeat (refine ⟨rfl, ?_⟩; conv => arg 4; whnf)
    refine callGE2 [0, 1, 2, 3, 4, 5, 6] (fun _ => .int .i64 0) (fun x => T6 (delM m k) (encR (remR k l)) room x.lf x.op) (keepsC r2 hg2 hl2 hfs hroom) rfl ⟨⟨by simp, by rw [ClO.fE, ← del_fE]; rfl⟩, ⟨by simp, rfl⟩, ⟨by simp, by rw [ClO.fE]; rfl⟩, ⟨by simp, rfl⟩, ⟨by simp, rfl⟩, ⟨by simp, rfl⟩, ⟨by simp, by rw [ClO.fil]; rfl⟩, trivial⟩ rfl (fun _ _ => Le.refl _ _) (fun _ _ => ⟨⟨_, rfl, LeO.refl _ _⟩, ⟨_, rfl, LeO.cl (ClO.fE _)⟩, ⟨_, rfl, LeO.refl _ _⟩, ⟨_, rfl, LeO.refl _ _⟩, ⟨_, rfl, LeO.refl _ _⟩, ⟨_, rfl, LeO.cl (ClO.fil _)⟩, trivial⟩) fun y _ => ?_
    (conv => arg 4; whnf); repeat (refine ⟨rfl, ?_⟩; conv => arg 4; whnf)
    exact ⟨y, trivial, [0, 1, 2, 3, 4, 5, 6, 7, 8], rfl, rfl, Le.refl _ _, ⟨⟨_, rfl, LeO.refl _ _⟩, ⟨_, rfl, LeO.lc (ClO.fE _)⟩, ⟨_, rfl, LeO.refl _ _⟩, ⟨_, rfl, LeO.refl _ _⟩, ⟨_, rfl, LeO.refl _ _⟩, ⟨_, rfl, LeO.lc (ClO.fil _)⟩, trivial⟩⟩
end Go.Proofs.Ytlcanameloklbaa.Tp

namespace Go.Proofs.Ytlcanameloklbaa.Tp
set_option maxRecDepth 100000
set_option maxHeartbeats 80000000
open Go.Sym

def rowA (x : Rw) : AV := .agg [.str x.1, .int .i64 x.2]
def rowsA (l : List Rw) : List AV := l.map rowA
abbrev TB (m : List Rw) : Heap := [(5, tbO 2 4), (4, .map (fE m))]

theorem ClL.rows (l : List Rw) : ClL (rowsA l) := ClL.map (fun x => Cl.agg (ClL.cons (Cl.str _) (ClL.cons (Cl.int _ _) ClL.nil))) l
theorem cutRow (i m : Nat) (l : List Rw) : renO (cut 11 m) (.cells [.sl (.tok 9 i) 2 (rowsA l)]) = .cells [.sl (.tok 9 i) 2 (rowsA l)] := by
  show AObj.cells [.sl (renP _ (.tok 9 i)) 2 (renL _ (rowsA l))] = _
  rw [ClL.rows l]
  rfl
theorem tList {l m : List Rw} (r : RelT l m) (hl : l.length ≤ 1000) : CallOK Try.prog 43 [.ptr 5 0] (TB m) 6 (Out (.sl .none 2 (rowsA l)) (TB m) 6) := by
  refine CallOK.fit (by decide) ?_
  refine callOK Try.call43 Try.func43 Try.ntmps43 rfl ?_
  (conv => arg 4; whnf); repeat (refine ⟨rfl, ?_⟩; conv => arg 4; whnf)
  refine callOK Try.call65 Try.func65 Try.ntmps65 rfl ?_
  (conv => arg 4; whnf); repeat (refine ⟨rfl, ?_⟩; conv => arg 4; whnf)
  refine ret_in ?_
  show holds _ _ _ _
  conv => arg 4; whnf
  refine holds_pre (args' := [.yld 8, .ptr 7 0]) (h' := (8, .loop _ _ _ _ _ _) :: (7, .cells [.ptr 5 0]) :: (6, .cells [.sl (.tok 9 0) 2 []]) :: (5, tbO 2 4) :: (4, .map (fE m)) :: [(9, .tip 0)]) (nx' := 10) ((Gh.token _ _ _ _).trans (Gh.le (fun _ => Le.refl _ _) (HeapLe.le ⟨⟨_, rfl, LeO.refl _ _⟩, ⟨_, rfl, LeO.refl _ _⟩, ⟨_, rfl, LeL.cons (Le.nilsTok rfl) (LeL.nil _)⟩, ⟨_, rfl, LeO.refl _ _⟩, ⟨_, rfl, LeO.refl _ _⟩, ⟨_, rfl, rfl⟩, trivial⟩))) rfl ?_
  refine callOK Try.call80 Try.func80 Try.ntmps80 rfl ?_
  (conv => arg 4; whnf); repeat (refine ⟨rfl, ?_⟩; conv => arg 4; whnf)
  refine callOK Try.call66 Try.func66 Try.ntmps66 rfl ?_
  (conv => arg 4; whnf); repeat (refine ⟨rfl, ?_⟩; conv => arg 4; whnf)
  refine ret_in ?_
  show holds _ _ _ _
  conv => arg 4; whnf
  refine callOK Try.call81 Try.func81 Try.ntmps81 rfl ?_
  (conv => arg 4; whnf); repeat (refine ⟨rfl, ?_⟩; conv => arg 4; whnf)
  refine ret_in ?_
  show holds _ _ _ _
  conv => arg 4; whnf
  refine callG2 [4, 10] (.sl .none 0 (strsA (l.map (·.1)))) [(8, loopOf Try.f43 0 [(2, .ptr 6 0)] 16 .ready), (7, .cells [.ptr 5 0]), (6, .cells [.sl (.tok 9 0) 2 []]), (5, tbO 2 4), (4, .map (fE m)), (9, .tip 0)] (sortedF r.perm (srt_keys r.srt) (by rw [r.len]; omega)) rfl ⟨⟨by simp, rfl⟩, ⟨by simp, by rw [ClO.fE]; rfl⟩, trivial⟩ rfl (Le.cl (Cl.keys _)) ⟨⟨_, rfl, LeO.loop ⟨Le.refl _ _, trivial⟩ rfl rfl rfl⟩, ⟨_, rfl, LeO.refl _ _⟩, ⟨_, rfl, LeO.refl _ _⟩, ⟨_, rfl, LeO.refl _ _⟩, ⟨_, rfl, LeO.cl (ClO.fE _)⟩, ⟨_, rfl, LeO.refl _ _⟩, trivial⟩ ?_
  (conv => arg 4; whnf); repeat (refine ⟨rfl, ?_⟩; conv => arg 4; whnf)
  refine tri_loopG (ι := EnI l) (fun x => ⟨[(14, .int .i64 x.i), (13, .int .i64 l.length), (12, .sl .none 0 (strsA (l.map (·.1)))), (0, .yld 8), (1, .ptr 7 0)], [(8, loopOf Try.f43 0 [(2, .ptr 6 0)] 16 .ready), (7, .cells [.ptr 5 0]), (6, .cells [.sl (.tok 9 x.i) 2 (rowsA (l.take x.i))]), (5, tbO 2 4), (4, .map (fE m)), (9, .tip x.i)], 11, 29⟩) (fun x => l.length - x.i) ⟨0, Nat.zero_le _⟩ (WkG.of rfl rfl ⟨Le.refl _ _, Le.of_eq (congrArg (AV.int .i64) (by rw [names_len])), Le.refl _ _, Le.refl _ _, Le.refl _ _, trivial⟩ ⟨⟨_, rfl, LeO.refl _ _⟩, ⟨_, rfl, LeO.refl _ _⟩, ⟨_, rfl, LeO.refl _ _⟩, ⟨_, rfl, LeO.refl _ _⟩, ⟨_, rfl, LeO.refl _ _⟩, ⟨_, rfl, LeO.refl _ _⟩, trivial⟩ ⟨rfl, rfl, Cl.keys _ _, rfl, rfl, trivial⟩ ⟨⟨by decide, rfl⟩, ⟨by decide, rfl⟩, ⟨by decide, cutRow _ _ _⟩, ⟨by decide, rfl⟩, ⟨by decide, ClO.fE _ _⟩, ⟨by decide, rfl⟩, trivial⟩) ?_
  rintro ⟨i, hi⟩
  dsimp only
  (conv => arg 4; whnf); repeat (refine ⟨rfl, ?_⟩; conv => arg 4; whnf)
  refine ⟨fun h => ?_, fun h => ?_⟩
  · have hlt : i < l.length := by simp at h; omega
    (conv => arg 4; whnf); repeat (refine ⟨rfl, ?_⟩; conv => arg 4; whnf)
    refine nth_in (.str l[i].1) ⟨by omega, names_get hlt⟩ ?_
    (conv => arg 4; whnf); repeat (refine ⟨rfl, ?_⟩; conv => arg 4; whnf)
    have hlk : lookV (fE m) (.str l[i].1) (.int .i64 0) false = .int .i64 l[i].2 := by rw [look_fE, r.look, find_get r.srt (List.getElem?_eq_getElem hlt)]; rfl
    refine nth_in (.int .i64 l[i].2) ⟨by decide, congrArg some hlk⟩ ?_
    (conv => arg 4; whnf); repeat (refine ⟨rfl, ?_⟩; conv => arg 4; whnf)
    refine need_in (askF m l[i].1) ?_
    (conv => arg 4; whnf); repeat (refine ⟨rfl, ?_⟩; conv => arg 4; whnf)
    refine round_in ?_
    (conv => arg 4; whnf); repeat (refine ⟨rfl, ?_⟩; conv => arg 4; whnf)
    refine need_in ⟨rfl, sizeOk 24 rfl (by rw [List.length_append]; simp only [rowsA, List.length_map, List.length_take, List.length_cons, List.length_nil]; omega)⟩ ?_
    (conv => arg 4; whnf); repeat (refine ⟨rfl, ?_⟩; conv => arg 4; whnf)
    refine br_no (by decide) ?_
    (conv => arg 4; whnf); repeat (refine ⟨rfl, ?_⟩; conv => arg 4; whnf)
    refine ⟨⟨i + 1, hlt⟩, by show l.length - (i + 1) < l.length - i; omega, WkG.of rfl rfl ⟨Le.of_eq (succ_int (by omega)), Le.refl _ _, Le.refl _ _, Le.refl _ _, Le.refl _ _, trivial⟩ ⟨⟨_, rfl, LeO.refl _ _⟩, ⟨_, rfl, LeO.refl _ _⟩, ⟨_, rfl, LeL.cons (Le.of_eq (congrArg (AV.sl (.tok 9 (i + 1)) 2) ?_)) (LeL.nil _)⟩, ⟨_, rfl, LeO.refl _ _⟩, ⟨_, rfl, LeO.refl _ _⟩, ⟨_, rfl, LeO.refl _ _⟩, trivial⟩ ⟨rfl, rfl, Cl.keys _ _, rfl, rfl, trivial⟩ ⟨⟨by decide, rfl⟩, ⟨by decide, rfl⟩, ⟨by decide, cutRow _ _ _⟩, ⟨by decide, rfl⟩, ⟨by decide, ClO.fE _ _⟩, ⟨by decide, rfl⟩, trivial⟩⟩
    show rowsA (l.take i) ++ [rowA l[i]] = rowsA (l.take (i + 1))
    rw [List.take_add_one, List.getElem?_eq_getElem hlt]
    simp only [rowsA, List.map_append]
    rfl
  · have hlt : i = l.length := by simp at h; omega
    (conv => arg 4; whnf); repeat (refine ⟨rfl, ?_⟩; conv => arg 4; whnf)
    refine fin_exit ?_
    show holds _ _ _ _
    conv => arg 4; whnf
    refine ret_in ?_
    show holds _ _ _ _
    conv => arg 4; whnf
    refine ⟨by decide, ?_, ⟨⟨_, rfl, LeO.refl _ _⟩, ⟨_, rfl, LeO.refl _ _⟩, trivial⟩, Cl.sl (ClL.rows l) _, ⟨⟨by decide, rfl⟩, ⟨by decide, ClO.fE _ _⟩, trivial⟩⟩
    rw [hlt, List.take_length]
    exact Le.none
end Go.Proofs.Ytlcanameloklbaa.Tp
