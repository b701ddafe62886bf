/-
  Where batches begin, and the entries of their indices: plain.
-/
import Derived.Test.YtejocegoockacaaTxt4
set_option linter.unusedVariables false
set_option linter.unusedSimpArgs false
namespace Go.Proofs.Ytejocegoockacaa.Ix
set_option maxRecDepth 100000
set_option maxHeartbeats 80000000
open Go.Sym

/-- Batches, each with where it begins. -/
def posL : Nat → List Bat → List (Nat × Bat)
  | _, [] => []
  | a, b :: l => (a, b) :: posL (a + b.enc.length) l
/-- The batches of bytes from a place on, behind an offset. -/
noncomputable def allP (p : List UInt8) (a : Nat) (last : Int) : List (Nat × Bat) := posL a (allB (p.drop a) last)

theorem allP_yes {p : List UInt8} {a : Nat} {last : Int} (h : firstE (p.drop a) = 0) (k : last < (firstB (p.drop a)).base) : allP p a last = (a, firstB (p.drop a)) :: allP p (a + firstN (p.drop a)) (firstB (p.drop a)).last := by
  unfold allP
  rw [allB_yes h k, posL, (first_len h).2.2, List.drop_drop]
theorem allP_no {p : List UInt8} {a : Nat} {last : Int} (h : ¬ (firstE (p.drop a) = 0 ∧ last < (firstB (p.drop a)).base)) : allP p a last = [] := by
  unfold allP
  rw [allB_no h, posL]
theorem allP_end {p : List UInt8} {a : Nat} {last : Int} (h : p.length ≤ a) : allP p a last = [] := by
  refine allP_no ?_
  rw [List.drop_eq_nil_of_le h, first_nil]
  intro h; cases h.1

theorem posL_length : ∀ (a : Nat) (l : List Bat), (posL a l).length = l.length
  | _, [] => rfl
  | a, b :: l => by simp only [posL, List.length_cons, posL_length]

theorem allP_len (p : List UInt8) (a : Nat) (last : Int) : 50 * (allP p a last).length ≤ p.length := by
  unfold allP
  rw [posL_length]
  have := (encN_all _ (p.drop a) last (Nat.le_refl _)).2
  rw [List.length_drop] at this
  omega

/-- One behind the other, with rising offsets, each one may be. -/
def RisesP : List (Nat × Bat) → Nat → Int → Prop
  | [], _, _ => True
  | (a, b) :: l, a0, last => a = a0 ∧ b.chk = 0 ∧ last < b.base ∧ RisesP l (a0 + b.enc.length) b.last

theorem rises_pos : ∀ (n : Nat) (q : List UInt8) (a : Nat) (last : Int), q.length ≤ n → RisesP (posL a (allB q last)) a last := by
  intro n
  induction n with
  | zero =>
    intro q a last hn
    have : q = [] := List.eq_nil_of_length_eq_zero (by omega)
    subst this
    rw [allB_no (by rw [first_nil]; intro h; cases h.1)]
    trivial
  | succ n ih =>
    intro q a last hn
    by_cases h : firstE q = 0 ∧ last < (firstB q).base
    · have h1 := first_len h.1
      rw [allB_yes h.1 h.2]
      exact ⟨rfl, (first_yes h.1).1.1, h.2, ih _ _ _ (by rw [List.length_drop]; omega)⟩
    · rw [allB_no h]
      trivial
theorem allP_rises (p : List UInt8) (a : Nat) (last : Int) : RisesP (allP p a last) a last := rises_pos _ _ _ _ (Nat.le_refl _)

theorem chk_nums {b : Bat} (h : b.chk = 0) : 0 ≤ b.base ∧ b.base ≤ b.last ∧ b.last ≤ 4611686018427387904 ∧ 50 ≤ b.enc.length ∧ b.recs.length ≤ 100 := by
  have hf := (chk_fine h).1
  have hh := hf.head
  have := hf.few
  unfold HeadBad at hh
  have h3 : b.enc.length = 50 + (recsB b.recs b.first b.base).length := by
    rw [batE_len, Bat.rest, List.length_append, head_len]; omega
  omega

theorem rises_mem : ∀ {l : List (Nat × Bat)} {a0 : Nat} {last : Int}, RisesP l a0 last → ∀ x ∈ l, a0 ≤ x.1 ∧ last < x.2.base ∧ x.2.chk = 0
  | (a, b) :: l, a0, last, ⟨h1, h2, h3, h4⟩, x, hx => by
    rcases List.mem_cons.1 hx with rfl | hx
    · exact ⟨by simp only; omega, h3, h2⟩
    · have h5 := chk_nums h2
      obtain ⟨q1, q2, q3⟩ := rises_mem h4 x hx
      exact ⟨by omega, by omega, q3⟩
theorem rises_lt : ∀ {l : List (Nat × Bat)} {a0 : Nat} {last : Int}, RisesP l a0 last → ∀ x ∈ l, ∀ y ∈ l, (x.1 < y.1 → x.2.last < y.2.base) ∧ (x.1 = y.1 → x.2 = y.2)
  | (a, b) :: l, a0, last, ⟨h1, h2, h3, h4⟩, x, hx, y, hy => by
    have h5 := chk_nums h2
    rcases List.mem_cons.1 hx with rfl | hx
    · rcases List.mem_cons.1 hy with rfl | hy
      · exact ⟨fun h => absurd h (Nat.lt_irrefl _), fun _ => rfl⟩
      · have := rises_mem h4 y hy
        exact ⟨fun _ => this.2.1, fun h => by simp only at h; omega⟩
    · rcases List.mem_cons.1 hy with rfl | hy
      · have := rises_mem h4 x hx
        exact ⟨fun h => by simp only at h; omega, fun h => by simp only at h; omega⟩
      · exact rises_lt h4 x hx y hy

/-- Records of a batch that may be: where they stand, and when they are from. -/
theorem recsE_rise {b : Bat} : ∀ {l : List Rec} {prev : Int}, recsE b l prev = 0 → ∀ r ∈ l, prev < r.off ∧ b.base ≤ r.off ∧ r.off ≤ b.last ∧ 0 ≤ r.time ∧ r.time ≤ 1125899906842624
  | [], _, _ => fun r hr => by cases hr
  | x :: l, prev, h => fun r hr => by
    unfold recsE at h
    by_cases h0 : recE x b.base b.last prev = 0
    · rw [if_neg (by simp [h0])] at h
      have hx := recE_fine h0
      have hy := hx.1
      unfold Rec.fine at hy
      rcases List.mem_cons.1 hr with rfl | hr
      · omega
      · have := recsE_rise h r hr
        omega
    · rw [if_pos h0] at h; exact absurd h h0
theorem chk_recs {b : Bat} (h : b.chk = 0) : ∀ r ∈ b.recs, b.base ≤ r.off ∧ r.off ≤ b.last ∧ 0 ≤ r.time ∧ r.time ≤ 1125899906842624 := fun r hr => (recsE_rise (chk_fine h).2.2 r hr).2

theorem foldl_max : ∀ (l : List Int) (a : Int), a ≤ l.foldl max a ∧ (∀ x ∈ l, x ≤ l.foldl max a) ∧ ∀ c, a ≤ c → (∀ x ∈ l, x ≤ c) → l.foldl max a ≤ c
  | [], a => ⟨Int.le_refl _, fun x hx => (by cases hx), fun c h _ => h⟩
  | y :: l, a => by
    obtain ⟨h1, h2, h3⟩ := foldl_max l (max a y)
    refine ⟨by simp only [List.foldl_cons]; omega, fun x hx => ?_, fun c hc hl => ?_⟩
    · simp only [List.foldl_cons]
      rcases List.mem_cons.1 hx with rfl | hx
      · omega
      · exact h2 x hx
    · simp only [List.foldl_cons]
      have := hl y List.mem_cons_self
      exact h3 c (by omega) fun x hx => hl x (List.mem_cons_of_mem _ hx)
theorem most_ge (b : Bat) : ∀ r ∈ b.recs, r.time ≤ b.most := fun r hr => (foldl_max _ _).2.1 _ (List.mem_map_of_mem hr)
theorem most_le {b : Bat} (h : b.chk = 0) : 0 ≤ b.most ∧ b.most ≤ 1125899906842624 := by
  have hf := first_time (chk_fine h).1
  have h1 := foldl_max (b.recs.map Rec.time) b.first
  unfold Bat.most
  refine ⟨by omega, h1.2.2 _ hf.2 fun x hx => ?_⟩
  obtain ⟨r, hr, rfl⟩ := List.mem_map.1 hx
  exact (chk_recs h r hr).2.2.2

/-- The entries of batches: where each begins, its offset, the greatest time ahead of it. -/
def bld (e : Int) : Int → Int → List (Nat × Bat) → List (Int × Int × Int)
  | _, _, [] => []
  | last, most, (a, b) :: l => if e ≤ a - last then (a, b.base, most) :: bld e a (max most b.most) l else bld e last (max most b.most) l
def eO (t : Int × Int × Int) : Int × Int := (t.2.1, t.1)
def eT (t : Int × Int × Int) : Int × Int := (t.2.2, t.2.1)
noncomputable def bldP (p : List UInt8) (every : Int) : List (Int × Int × Int) := bld (max every 1) 0 0 (allP p 0 (-1))

/-- The place of the last entry that is not behind an offset. -/
def lkO (l : List (Int × Int)) (off : Int) : Int := l.foldl (fun pos x => if x.1 ≤ off then x.2 else pos) 0
/-- The greatest offset of entries of an earlier time. -/
def lkT (l : List (Int × Int)) (t : Int) : Int := l.foldl (fun m x => if x.1 < t then max m x.2 else m) 0

/-- The first batch from a place on that reaches an offset. -/
def seekL (f off : Int) : List (Nat × Bat) → Int × Bool
  | [] => (0, false)
  | (a, b) :: l => if f ≤ a ∧ off ≤ b.last then (a, true) else seekL f off l
def begs (l : List (Nat × Bat)) (pos : Int) : Bool := l.any fun x => decide ((x.1 : Int) = pos)
noncomputable def seekP (p : List UInt8) (l : List (Int × Int)) (off : Int) : Int × Bool :=
  seekL (if begs (allP p 0 (-1)) (lkO l off) then lkO l off else 0) off (allP p 0 (-1))

/-- The first record from an offset on that is not ahead of a time. -/
def findR (f t : Int) : List Rec → Option Int
  | [] => none
  | r :: l => if f ≤ r.off ∧ t ≤ r.time then some r.off else findR f t l
def findL (f t : Int) : List (Nat × Bat) → Option Int
  | [] => none
  | (_, b) :: l => match findR f t b.recs with
    | some x => some x
    | none => findL f t l
def foundA (o : Option Int) : AV := .tup [.int .i64 (o.getD 0), .bool o.isSome]

theorem bld_mem : ∀ {l : List (Nat × Bat)} {e last most : Int}, ∀ t ∈ bld e last most l, ∃ x ∈ l, t.1 = x.1 ∧ t.2.1 = x.2.base
  | [], _, _, _, t, ht => by cases ht
  | (a, b) :: l, e, last, most, t, ht => by
    unfold bld at ht
    split at ht
    · rcases List.mem_cons.1 ht with rfl | ht
      · exact ⟨_, List.mem_cons_self, rfl, rfl⟩
      · obtain ⟨x, hx, h⟩ := bld_mem t ht
        exact ⟨x, List.mem_cons_of_mem _ hx, h⟩
    · obtain ⟨x, hx, h⟩ := bld_mem t ht
      exact ⟨x, List.mem_cons_of_mem _ hx, h⟩
theorem bld_len : ∀ (l : List (Nat × Bat)) (e last most : Int), (bld e last most l).length ≤ l.length
  | [], _, _, _ => Nat.le_refl _
  | (a, b) :: l, e, last, most => by
    unfold bld
    split
    · have := bld_len l e a (max most b.most)
      simp only [List.length_cons]; omega
    · have := bld_len l e last (max most b.most)
      simp only [List.length_cons]; omega
theorem bldP_len (p : List UInt8) (every : Int) : 50 * (bldP p every).length ≤ p.length := by
  have h1 := bld_len (allP p 0 (-1)) (max every 1) 0 0
  have h2 := allP_len p 0 (-1)
  unfold bldP
  omega

theorem lkO_mem : ∀ (l : List (Int × Int)) (off z : Int), l.foldl (fun pos x => if x.1 ≤ off then x.2 else pos) z = z ∨ ∃ x ∈ l, x.2 = l.foldl (fun pos x => if x.1 ≤ off then x.2 else pos) z ∧ x.1 ≤ off
  | [], _, _ => .inl rfl
  | y :: l, off, z => by
    simp only [List.foldl_cons]
    by_cases h : y.1 ≤ off
    · rw [if_pos h]
      rcases lkO_mem l off y.2 with h1 | ⟨x, hx, h1⟩
      · exact .inr ⟨y, List.mem_cons_self, h1.symm, h⟩
      · exact .inr ⟨x, List.mem_cons_of_mem _ hx, h1⟩
    · rw [if_neg h]
      rcases lkO_mem l off z with h1 | ⟨x, hx, h1⟩
      · exact .inl h1
      · exact .inr ⟨x, List.mem_cons_of_mem _ hx, h1⟩
theorem lkT_mem : ∀ (l : List (Int × Int)) (t z : Int), z ≤ l.foldl (fun m x => if x.1 < t then max m x.2 else m) z ∧ (l.foldl (fun m x => if x.1 < t then max m x.2 else m) z = z ∨ ∃ x ∈ l, x.2 = l.foldl (fun m x => if x.1 < t then max m x.2 else m) z ∧ x.1 < t)
  | [], _, _ => ⟨Int.le_refl _, .inl rfl⟩
  | y :: l, t, z => by
    simp only [List.foldl_cons]
    by_cases h : y.1 < t
    · rw [if_pos h]
      obtain ⟨h0, h1⟩ := lkT_mem l t (max z y.2)
      refine ⟨by omega, ?_⟩
      rcases h1 with h1 | ⟨x, hx, h1⟩
      · rcases Int.le_total z y.2 with h2 | h2
        · exact .inr ⟨y, List.mem_cons_self, by rw [h1]; omega, h⟩
        · exact .inl (by rw [h1]; omega)
      · exact .inr ⟨x, List.mem_cons_of_mem _ hx, h1⟩
    · rw [if_neg h]
      obtain ⟨h0, h1⟩ := lkT_mem l t z
      refine ⟨h0, ?_⟩
      rcases h1 with h1 | ⟨x, hx, h1⟩
      · exact .inl h1
      · exact .inr ⟨x, List.mem_cons_of_mem _ hx, h1⟩

theorem seekL_skip : ∀ {l : List (Nat × Bat)} {f off : Int}, (∀ x ∈ l, off ≤ x.2.last → f ≤ x.1) → seekL f off l = seekL 0 off l
  | [], _, _, _ => rfl
  | (a, b) :: l, f, off, h => by
    unfold seekL
    by_cases h1 : off ≤ b.last
    · have := h _ List.mem_cons_self h1
      simp only at this
      rw [if_pos ⟨this, h1⟩, if_pos ⟨by omega, h1⟩]
    · rw [if_neg fun h => h1 h.2, if_neg fun h => h1 h.2]
      exact seekL_skip fun x hx => h x (List.mem_cons_of_mem _ hx)

/-- With its own index an offset is found where a walk finds it. -/
theorem seek_own (p : List UInt8) (every off : Int) : seekP p ((bldP p every).map eO) off = seekL 0 off (allP p 0 (-1)) := by
  unfold seekP
  split
  · refine seekL_skip fun x hx hl => ?_
    rcases lkO_mem ((bldP p every).map eO) off 0 with h | ⟨y, hy, h1, h2⟩
    · unfold lkO; rw [h]; omega
    · obtain ⟨t, ht, rfl⟩ := List.mem_map.1 hy
      obtain ⟨z, hz, e1, e2⟩ := bld_mem t ht
      have h3 := (rises_lt (allP_rises p 0 (-1)) x hx z hz).1
      unfold lkO
      rw [← h1]
      unfold eO at h2 ⊢
      simp only at h2 ⊢
      omega
  · rfl
theorem seek_nil (p : List UInt8) (off : Int) : seekP p [] off = seekL 0 off (allP p 0 (-1)) := by
  unfold seekP
  have h : lkO [] off = 0 := rfl
  rw [h]
  split <;> rfl

/-- The greatest time of an entry is that of all batches ahead of it. -/
theorem bld_most : ∀ {l : List (Nat × Bat)} {a0 : Nat} {e last most prev : Int}, RisesP l a0 prev → ∀ t ∈ bld e last most l, most ≤ t.2.2 ∧ ∀ x ∈ l, (x.1 : Int) < t.1 → x.2.most ≤ t.2.2
  | [], _, _, _, _, _, _, t, ht => by cases ht
  | (a, b) :: l, a0, e, last, most, prev, ⟨h1, h2, h3, h4⟩, t, ht => by
    have hb := chk_nums h2
    have key : ∀ last', t ∈ bld e last' (max most b.most) l → most ≤ t.2.2 ∧ ∀ x ∈ (a, b) :: l, (x.1 : Int) < t.1 → x.2.most ≤ t.2.2 := fun last' ht => by
      obtain ⟨q1, q2⟩ := bld_most h4 t ht
      refine ⟨by omega, fun x hx => ?_⟩
      rcases List.mem_cons.1 hx with rfl | hx
      · intro _; simp only; omega
      · exact q2 x hx
    unfold bld at ht
    split at ht
    · rcases List.mem_cons.1 ht with rfl | ht
      · refine ⟨Int.le_refl _, fun x hx hlt => ?_⟩
        rcases List.mem_cons.1 hx with rfl | hx
        · simp only at hlt; omega
        · have := (rises_mem h4 x hx).1
          simp only at hlt; omega
      · exact key _ ht
    · exact key _ ht

/-- All records ahead of where a time is looked for are of an earlier time. -/
theorem time_skips (p : List UInt8) (every t : Int) : 0 ≤ lkT ((bldP p every).map eT) t ∧ ∀ x ∈ allP p 0 (-1), ∀ r ∈ x.2.recs, r.off < lkT ((bldP p every).map eT) t → r.time < t := by
  obtain ⟨h0, h1⟩ := lkT_mem ((bldP p every).map eT) t 0
  refine ⟨h0, fun x hx r hr hlt => ?_⟩
  have hri := allP_rises p 0 (-1)
  have hxc := (rises_mem hri x hx).2.2
  have hrc := chk_recs hxc r hr
  have hxn := chk_nums hxc
  rcases h1 with h1 | ⟨y, hy, h1, h2⟩
  · unfold lkT at hlt; omega
  · obtain ⟨e, he, rfl⟩ := List.mem_map.1 hy
    obtain ⟨z, hz, e1, e2⟩ := bld_mem e he
    have hm := (bld_most hri e he).2 x hx
    have h3 := rises_lt hri z hz x hx
    have hzn := chk_nums (rises_mem hri z hz).2.2
    have hmg := most_ge x.2 r hr
    unfold lkT at hlt
    rw [← h1] at hlt
    unfold eT at h2 hlt
    simp only at h2 hlt
    rcases Nat.lt_trichotomy x.1 z.1 with h | h | h
    · have := hm (by omega); omega
    · have := h3.2 h.symm; rw [this] at hzn e2; omega
    · have := h3.1 h; omega

theorem findR_skip : ∀ {l : List Rec} {f t : Int}, (∀ r ∈ l, t ≤ r.time → f ≤ r.off ∧ 0 ≤ r.off) → findR f t l = findR 0 t l
  | [], _, _, _ => rfl
  | r :: l, f, t, h => by
    unfold findR
    by_cases h1 : t ≤ r.time
    · have := h _ List.mem_cons_self h1
      rw [if_pos ⟨this.1, h1⟩, if_pos ⟨this.2, h1⟩]
    · rw [if_neg fun h => h1 h.2, if_neg fun h => h1 h.2]
      exact findR_skip fun x hx => h x (List.mem_cons_of_mem _ hx)
theorem findL_skip : ∀ {l : List (Nat × Bat)} {f t : Int}, (∀ x ∈ l, ∀ r ∈ x.2.recs, t ≤ r.time → f ≤ r.off ∧ 0 ≤ r.off) → findL f t l = findL 0 t l
  | [], _, _, _ => rfl
  | (a, b) :: l, f, t, h => by
    unfold findL
    rw [findR_skip (h _ List.mem_cons_self), findL_skip fun x hx => h x (List.mem_cons_of_mem _ hx)]
theorem find_own (p : List UInt8) (every t : Int) : findL (lkT ((bldP p every).map eT) t) t (allP p 0 (-1)) = findL 0 t (allP p 0 (-1)) := by
  refine findL_skip fun x hx r hr ht => ?_
  have h := (time_skips p every t).2 x hx r hr
  have hxc := (rises_mem (allP_rises p 0 (-1)) x hx).2.2
  have hrc := chk_recs hxc r hr
  have hxn := chk_nums hxc
  omega
end Go.Proofs.Ytejocegoockacaa.Ix

namespace Go.Proofs.Ytejocegoockacaa.Ix
set_option maxRecDepth 100000
set_option maxHeartbeats 80000000
open Go.Sym

/-- Do entries rise behind one? -/
def OkE (tm : Bool) : Int × Int → List (Int × Int) → Prop
  | _, [] => True
  | y, x :: l => (y.1 < x.1 ∨ tm = true ∧ y.1 = x.1) ∧ y.2 < x.2 ∧ OkE tm x l
def st0 (tm : Bool) : Int × Int := (if tm then 0 else -1, -1)
def entB (l : List (Int × Int)) : List UInt8 := (l.map fun x => fixed x.1.toNat 8 ++ fixed x.2.toNat 8).flatten

open Classical in
noncomputable def entO (tm : Bool) (l : List (Int × Int)) : List UInt8 := if OkE tm (st0 tm) l then entB l else []
open Classical in
noncomputable def entE (tm : Bool) (l : List (Int × Int)) : Int := if OkE tm (st0 tm) l then 0 else 1
noncomputable def entA (tm : Bool) (l : List (Int × Int)) : AV := .tup [bs (entO tm l), .int .i64 (entE tm l)]
theorem entE_yes {tm : Bool} {l : List (Int × Int)} (h : OkE tm (st0 tm) l) : entE tm l = 0 := by rw [entE, if_pos h]
theorem entE_no {tm : Bool} {l : List (Int × Int)} (h : ¬ OkE tm (st0 tm) l) : entE tm l = 1 := by rw [entE, if_neg h]
theorem entE_iff {tm : Bool} {l : List (Int × Int)} : entE tm l = 0 ↔ OkE tm (st0 tm) l := by
  by_cases h : OkE tm (st0 tm) l
  · simp [entE_yes h, h]
  · simp [entE_no h, h]
theorem entA_yes {tm : Bool} {l : List (Int × Int)} (h : OkE tm (st0 tm) l) : entA tm l = .tup [bs (entB l), .int .i64 0] := by rw [entA, entE_yes h, entO, if_pos h]
theorem entA_no {tm : Bool} {l : List (Int × Int)} (h : ¬ OkE tm (st0 tm) l) : entA tm l = .tup [bs [], .int .i64 1] := by rw [entA, entE_no h, entO, if_neg h]
theorem Cl.entA (tm : Bool) (l : List (Int × Int)) : Cl (entA tm l) := Cl.tup (ClL.cons (Cl.bs _) (ClL.cons (Cl.int _ _) ClL.nil))

theorem entB_len (l : List (Int × Int)) : (entB l).length = 16 * l.length := by
  induction l with
  | nil => rfl
  | cons x l ih =>
    have : entB (x :: l) = (fixed x.1.toNat 8 ++ fixed x.2.toNat 8) ++ entB l := by simp [entB]
    rw [this, List.length_append, List.length_append, fixed_len, fixed_len, ih, List.length_cons]
    omega
theorem entB_snoc (l : List (Int × Int)) (x : Int × Int) : entB (l ++ [x]) = entB l ++ (fixed x.1.toNat 8 ++ fixed x.2.toNat 8) := by simp [entB]
theorem entB_app (l m : List (Int × Int)) : entB (l ++ m) = entB l ++ entB m := by simp [entB]

theorem okE_nn {tm : Bool} : ∀ {l : List (Int × Int)} {y : Int × Int}, OkE tm y l → (if tm then 0 else -1) ≤ y.1 → -1 ≤ y.2 → ∀ x ∈ l, 0 ≤ x.1 ∧ 0 ≤ x.2
  | z :: l, y, ⟨h1, h2, h3⟩, k1, k2, x, hx => by
    have hz : 0 ≤ z.1 ∧ 0 ≤ z.2 := by
      cases tm
      · simp at h1 k1; omega
      · simp at h1 k1; omega
    rcases List.mem_cons.1 hx with rfl | hx
    · exact hz
    · exact okE_nn h3 (by split <;> omega) (by omega) x hx
theorem okE_pos {tm : Bool} {l : List (Int × Int)} (h : OkE tm (st0 tm) l) : ∀ x ∈ l, 0 ≤ x.1 ∧ 0 ≤ x.2 := okE_nn h (by unfold st0; simp) (by unfold st0; simp)

/-- The entries that bytes hold. -/
def entF (p : List UInt8) (k : Nat) : Int × Int := (fxAt p (16 * k) (16 * k + 8), fxAt p (16 * k + 8) (16 * k + 16))
def entN (p : List UInt8) (n : Nat) : List (Int × Int) := (List.range n).map (entF p)
def entD (p : List UInt8) : List (Int × Int) := entN p (p.length / 16)
def DecE (tm : Bool) (p : List UInt8) : Prop := p.length % 16 = 0 ∧ OkE tm (st0 tm) (entD p)

theorem entN_len (p : List UInt8) (n : Nat) : (entN p n).length = n := by simp [entN]
theorem entN_succ (p : List UInt8) (n : Nat) : entN p (n + 1) = entN p n ++ [entF p n] := by simp [entN, List.range_succ]
theorem entD_mem {p : List UInt8} {k : Nat} (h : k < p.length / 16) : entF p k ∈ entD p := by
  unfold entD entN
  exact List.mem_map_of_mem (List.mem_range.2 h)

theorem unfixed_range : ∀ (l : List UInt8) (n : Nat), n * 256 ^ l.length ≤ unfixed n l ∧ unfixed n l < (n + 1) * 256 ^ l.length
  | [], n => by simp [unfixed]
  | c :: r, n => by
    have h := unfixed_range r (n * 256 + c.toNat)
    have hc : c.toNat < 256 := c.toNat_lt
    have e1 : n * 256 ^ (c :: r).length = n * 256 * 256 ^ r.length := by rw [List.length_cons, Nat.pow_succ, Nat.mul_comm (256 ^ r.length) 256, ← Nat.mul_assoc]
    have e2 : (n + 1) * 256 ^ (c :: r).length = (n + 1) * 256 * 256 ^ r.length := by rw [List.length_cons, Nat.pow_succ, Nat.mul_comm (256 ^ r.length) 256, ← Nat.mul_assoc]
    have h1 : n * 256 * 256 ^ r.length ≤ (n * 256 + c.toNat) * 256 ^ r.length := Nat.mul_le_mul_right _ (by omega)
    have h2 : (n * 256 + c.toNat + 1) * 256 ^ r.length ≤ (n + 1) * 256 * 256 ^ r.length := Nat.mul_le_mul_right _ (by omega)
    rw [e1, e2]
    unfold unfixed
    omega
/-- Eight bytes as a number: its sign is the first bit. -/
theorem unfixed8 {c : UInt8} {r : List UInt8} (h : r.length = 7) : (c.toNat ≤ 127 → IntKind.i64.wrap (unfixed 0 (c :: r) : Nat) = (unfixed 0 (c :: r) : Nat)) ∧ (127 < c.toNat → IntKind.i64.wrap (unfixed 0 (c :: r) : Nat) < 0) := by
  have h1 := unfixed_range r (0 * 256 + c.toNat)
  have hc : c.toNat < 256 := c.toNat_lt
  have e : unfixed 0 (c :: r) = unfixed (0 * 256 + c.toNat) r := rfl
  have e7 : 256 ^ 7 = 72057594037927936 := by decide
  rw [e, IntKind.wrap_i64]
  rw [h, e7] at h1
  generalize unfixed (0 * 256 + c.toNat) r = u at h1 ⊢
  omega

/-- One number is read of eight bytes or more. -/
theorem fixedR_at {p r : List UInt8} {a : Nat} (hr : r = p.drop a) : (0 ≤ fxAt p a (a + 8) ∧ a + 8 ≤ p.length ∧ fixedR r 0 8 = (fxAt p a (a + 8), p.drop (a + 8), 0)) ∨ ((fxAt p a (a + 8) < 0 ∨ p.length < a + 8) ∧ fixedR r 0 8 = (0, r, 2)) := by
  have e8 : (8 : Int).toNat = 8 := rfl
  have ef : fxAt p a (a + 8) = IntKind.i64.wrap (unfixed 0 (r.take 8) : Nat) := by
    rw [fxAt, hr, List.drop_take]
    congr 4
    omega
  have hl : r.length = p.length - a := by rw [hr, List.length_drop]
  by_cases h : p.length < a + 8
  · right
    refine ⟨.inr h, ?_⟩
    unfold fixedR
    rw [if_neg (by simp), if_pos (by omega)]
  · obtain ⟨c, t, ht⟩ : ∃ c t, r = c :: t := by
      cases r with
      | nil => simp at hl; omega
      | cons c t => exact ⟨c, t, rfl⟩
    have et : r.take 8 = c :: t.take 7 := by rw [ht]; rfl
    have hh : r.headD 0 = c := by rw [ht]; rfl
    have h7 : (t.take 7).length = 7 := by rw [List.length_take]; rw [ht, List.length_cons] at hl; omega
    obtain ⟨u1, u2⟩ := unfixed8 (c := c) h7
    rw [ef, et]
    by_cases hc : c.toNat ≤ 127
    · left
      rw [u1 hc]
      refine ⟨by omega, by omega, ?_⟩
      unfold fixedR
      rw [if_neg (by simp), if_neg (by rw [hh]; omega), e8, et]
      congr 2
      rw [hr, List.drop_drop]
    · right
      refine ⟨.inl (u2 (by omega)), ?_⟩
      unfold fixedR
      rw [if_neg (by simp), if_pos (by rw [hh]; omega)]

theorem fxAt_i64 (p : List UInt8) (a b : Nat) : I64 (fxAt p a b) := by
  unfold fxAt I64
  rw [IntKind.wrap_i64]
  omega
theorem dec_step {tm : Bool} {p r r1 r2 : List UInt8} {k : Nat} {v1 v2 e1 e2 : Int} (hr : r = p.drop (16 * k)) (hlt : 16 * k < p.length) (h1 : fixedR r 0 8 = (v1, r1, e1)) (h2 : fixedR r1 e1 8 = (v2, r2, e2)) : (I64 v1 ∧ I64 v2) ∧ ((e2 = 0 ∧ (v1, v2) = entF p k ∧ r2 = p.drop (16 * (k + 1)) ∧ 16 * (k + 1) ≤ p.length) ∨ (e2 ≠ 0 ∧ ¬ DecE tm p)) := by
  have z : I64 0 := by unfold I64; omega
  rcases fixedR_at hr with ⟨q1, q2, q3⟩ | ⟨q1, q3⟩
  · rw [q3] at h1
    simp only [Prod.mk.injEq] at h1
    obtain ⟨rfl, rfl, rfl⟩ := h1
    rcases fixedR_at (p := p) (a := 16 * k + 8) rfl with ⟨u1, u2, u3⟩ | ⟨u1, u3⟩
    · rw [u3] at h2
      simp only [Prod.mk.injEq] at h2
      obtain ⟨rfl, rfl, rfl⟩ := h2
      exact ⟨⟨fxAt_i64 _ _ _, fxAt_i64 _ _ _⟩, .inl ⟨rfl, rfl, by congr 1, by omega⟩⟩
    · rw [u3] at h2
      simp only [Prod.mk.injEq] at h2
      obtain ⟨rfl, rfl, rfl⟩ := h2
      refine ⟨⟨fxAt_i64 _ _ _, z⟩, .inr ⟨by decide, fun hd => ?_⟩⟩
      have hm := okE_pos hd.2 _ (entD_mem (p := p) (k := k) (by have := hd.1; omega))
      have := hd.1
      unfold entF at hm
      simp only at hm
      rcases u1 with u1 | u1
      · have u1 : fxAt p (16 * k + 8) (16 * k + 16) < 0 := u1
        have := hm.2; omega
      · omega
  · rw [q3] at h1
    simp only [Prod.mk.injEq] at h1
    obtain ⟨rfl, rfl, rfl⟩ := h1
    have h3 : fixedR r 2 8 = (0, r, 2) := by unfold fixedR; rw [if_pos (by decide)]
    rw [h3] at h2
    simp only [Prod.mk.injEq] at h2
    obtain ⟨rfl, rfl, rfl⟩ := h2
    refine ⟨⟨z, z⟩, .inr ⟨by decide, fun hd => ?_⟩⟩
    have hm := okE_pos hd.2 _ (entD_mem (p := p) (k := k) (by have := hd.1; omega))
    have := hd.1
    unfold entF at hm
    simp only at hm
    rcases q1 with q1 | q1
    · have := hm.1; omega
    · omega

theorem entF_entB {l : List (Int × Int)} (h : ∀ x ∈ l, (0 ≤ x.1 ∧ x.1 ≤ 9223372036854775807) ∧ 0 ≤ x.2 ∧ x.2 ≤ 9223372036854775807) {k : Nat} {x : Int × Int} (hx : l[k]? = some x) : entF (entB l) k = x := by
  have hk : k < l.length := by
    rcases Nat.lt_or_ge k l.length with h | h
    · exact h
    · simp [List.getElem?_eq_none h] at hx
  have hm := h x (List.mem_of_getElem? hx)
  have e : l = l.take k ++ (x :: l.drop (k + 1)) := by
    have : l.drop k = x :: l.drop (k + 1) := by
      rw [List.drop_eq_getElem_cons hk]
      simp [List.getElem?_eq_getElem hk] at hx
      rw [hx]
    rw [← this, List.take_append_drop]
  have eb : entB l = entB (l.take k) ++ (fixed x.1.toNat 8 ++ (fixed x.2.toNat 8 ++ entB (l.drop (k + 1)))) := by
    have e2 : entB (x :: l.drop (k + 1)) = fixed x.1.toNat 8 ++ fixed x.2.toNat 8 ++ entB (l.drop (k + 1)) := by simp [entB]
    rw [← List.append_assoc (fixed _ _), ← e2, ← entB_app, ← e]
  have lk : (entB (l.take k)).length = 16 * k := by rw [entB_len, List.length_take]; omega
  have p8 : (256 : Int) ^ 8 = 18446744073709551616 := by decide
  unfold entF
  rw [fxAt_eq (k := 8) eb lk rfl (by omega) (by rw [p8]; omega) (by omega)]
  rw [fxAt_eq (pre := entB (l.take k) ++ fixed x.1.toNat 8) (k := 8) (b := 16 * k + 16) (by rw [eb]; simp only [List.append_assoc]; rfl) (by rw [List.length_append, fixed_len, lk]) rfl (by omega) (by rw [p8]; omega) (by omega)]

theorem entD_entB {l : List (Int × Int)} (h : ∀ x ∈ l, (0 ≤ x.1 ∧ x.1 ≤ 9223372036854775807) ∧ 0 ≤ x.2 ∧ x.2 ≤ 9223372036854775807) : entD (entB l) = l := by
  have hn : (entB l).length / 16 = l.length := by rw [entB_len]; omega
  unfold entD
  rw [hn]
  apply List.ext_getElem?
  intro k
  unfold entN
  rw [List.getElem?_map]
  by_cases hk : k < l.length
  · rw [List.getElem?_range hk, List.getElem?_eq_getElem hk]
    exact congrArg some (entF_entB h (List.getElem?_eq_getElem hk))
  · rw [List.getElem?_eq_none (by simp; omega), List.getElem?_eq_none (by omega)]
    rfl
theorem dec_entB {tm : Bool} {l : List (Int × Int)} (h : ∀ x ∈ l, x.1 ≤ 9223372036854775807 ∧ x.2 ≤ 9223372036854775807) (ho : OkE tm (st0 tm) l) : DecE tm (entB l) ∧ entD (entB l) = l := by
  have e := entD_entB (l := l) fun x hx => by
    have h1 := okE_pos ho x hx
    have h2 := h x hx
    omega
  exact ⟨⟨by rw [entB_len]; omega, by rw [e]; exact ho⟩, e⟩

/-- The entries of times rise, as they must. -/
theorem tl_ok : ∀ {l : List (Nat × Bat)} {a0 : Nat} {e last most prev : Int} {y : Int × Int}, RisesP l a0 prev → y.1 ≤ most → y.2 ≤ prev → OkE true y ((bld e last most l).map eT)
  | [], _, _, _, _, _, _, _, _, _ => trivial
  | (a, b) :: l, a0, e, last, most, prev, y, ⟨h1, h2, h3, h4⟩, k1, k2 => by
    have hb := chk_nums h2
    unfold bld
    split
    · refine ⟨?_, ?_, tl_ok h4 ?_ ?_⟩
      · show y.1 < most ∨ _ ∧ y.1 = most
        simp only [true_and]
        omega
      · show y.2 < b.base
        omega
      · show most ≤ max most b.most
        omega
      · show b.base ≤ b.last
        omega
    · exact tl_ok h4 (by omega) (by omega)
theorem tl_okP (p : List UInt8) (every : Int) : OkE true (st0 true) ((bldP p every).map eT) := tl_ok (allP_rises p 0 (-1)) (by unfold st0; simp) (by unfold st0; simp)
theorem tl_small : ∀ {l : List (Nat × Bat)} {a0 : Nat} {e last most prev : Int}, RisesP l a0 prev → most ≤ 1125899906842624 → ∀ x ∈ (bld e last most l).map eT, x.1 ≤ 9223372036854775807 ∧ x.2 ≤ 9223372036854775807
  | [], _, _, _, _, _, _, _, x, hx => by cases hx
  | (a, b) :: l, a0, e, last, most, prev, ⟨h1, h2, h3, h4⟩, hm, x, hx => by
    have hb := chk_nums h2
    have hbm := most_le h2
    unfold bld at hx
    split at hx
    · rcases List.mem_cons.1 hx with rfl | hx
      · refine ⟨?_, ?_⟩
        · show most ≤ _
          omega
        · show b.base ≤ _
          omega
      · exact tl_small h4 (by omega) x hx
    · exact tl_small h4 (by omega) x hx
theorem tl_smallP (p : List UInt8) (every : Int) : ∀ x ∈ (bldP p every).map eT, x.1 ≤ 9223372036854775807 ∧ x.2 ≤ 9223372036854775807 := tl_small (allP_rises p 0 (-1)) (by decide)

/-- Entries of offsets are as far apart as was asked for. -/
def Apart (e : Int) : Int → List (Int × Int × Int) → Prop
  | _, [] => True
  | last, t :: l => e ≤ t.1 - last ∧ Apart e t.1 l
theorem bld_apart : ∀ (l : List (Nat × Bat)) (e last most : Int), Apart e last (bld e last most l)
  | [], _, _, _ => trivial
  | (a, b) :: l, e, last, most => by
    unfold bld
    split
    · rename_i h
      exact ⟨h, bld_apart l e a _⟩
    · exact bld_apart l e last _
end Go.Proofs.Ytejocegoockacaa.Ix

namespace Go.Proofs.Ytejocegoockacaa.Ix
set_option maxRecDepth 100000
set_option maxHeartbeats 80000000
open Go.Sym

def prA (x : Int × Int) : AV := .agg [.int .i64 x.1, .int .i64 x.2]
def prsL (l : List (Int × Int)) : List AV := l.map prA
abbrev prsV (l : List (Int × Int)) : AV := .sl .none 2 (prsL l)
theorem Cl.prA (x : Int × Int) : Cl (prA x) := Cl.agg (ClL.cons (Cl.int _ _) (ClL.cons (Cl.int _ _) ClL.nil))
theorem ClL.prs (l : List (Int × Int)) : ClL (prsL l) := ClL.map Cl.prA l
theorem Cl.prsV (l : List (Int × Int)) : Cl (prsV l) := Cl.sl (ClL.prs l)
theorem prs_length (l : List (Int × Int)) : (prsL l).length = l.length := by simp [prsL]
theorem prs_get {l : List (Int × Int)} {i : Nat} {x : Int × Int} (h : l[i]? = some x) : (prsL l)[((i : Nat) : Int).toNat]? = some (prA x) := by simp [prsL, h]

def atA (x : Nat × Bat) : AV := .agg [.int .i64 x.1, .int .i64 x.2.base, .int .i64 x.2.last, .int .i64 x.2.prod, .int .i64 x.2.epoch, .int .i64 x.2.seq, recsV x.2.recs]
def atsL (l : List (Nat × Bat)) : List AV := l.map atA
abbrev atsV (l : List (Nat × Bat)) : AV := .sl .none 7 (atsL l)
theorem Cl.atA (x : Nat × Bat) : Cl (atA x) := by
  unfold Ix.atA
  (repeat' (first | with_reducible assumption | exact ClL.nil | exact Cl.int _ _ | exact Cl.bool _ | exact Cl.bl _ | exact Cl.bs _ | exact Cl.str _ | exact Cl.nils | exact Cl.nilp | exact Cl.rec _ | exact Cl.bat _ | exact Cl.recsV _ | exact Cl.strsV _ | exact Cl.intsV _ | exact Cl.req _ | exact Cl.rsp _ | exact Cl.reqA _ | exact Cl.rspA _ | exact Cl.batsV _ | exact Cl.prsV _ | exact Cl.atsV _ | exact Cl.entA _ _ | exact Cl.foundA _ | exact Cl.getB _ | exact Cl.encA _ | exact Cl.firstA _ | refine ClL.cons ?_ ?_ | refine Cl.tup ?_ | refine Cl.agg ?_ | exact ClO.RO _ _))
theorem ClL.ats (l : List (Nat × Bat)) : ClL (atsL l) := ClL.map Cl.atA l
theorem Cl.atsV (l : List (Nat × Bat)) : Cl (atsV l) := Cl.sl (ClL.ats l)
theorem ats_length (l : List (Nat × Bat)) : (atsL l).length = l.length := by simp [atsL]
theorem ats_get {l : List (Nat × Bat)} {i : Nat} {x : Nat × Bat} (h : l[i]? = some x) : (atsL l)[((i : Nat) : Int).toNat]? = some (atA x) := by simp [atsL, h]

theorem maxG (a b : Int) : (if b > a then b else a) = max a b := by split <;> omega

theorem ats_snoc (l : List (Nat × Bat)) (x : Nat × Bat) : atsL l ++ [atA x] = atsL (l ++ [x]) := by simp [atsL]
theorem prs_snoc (l : List (Int × Int)) (x : Int × Int) : prsL l ++ [prA x] = prsL (l ++ [x]) := by simp [prsL]
theorem cut_sl {n nx k : Nat} {p : Perm} {l : List AV} (h : ClL l) (hp : renP (cut n nx) p = p) : ren (cut n nx) (.sl p k l) = .sl p k l := by simp only [ren, h _, hp]

structure LkI (l : List (Int × Int)) where
  i : Nat
  hi : i ≤ l.length

theorem lkO_take {l : List (Int × Int)} {i : Nat} {x : Int × Int} (h : l[i]? = some x) (off : Int) : lkO (l.take (i + 1)) off = if x.1 ≤ off then x.2 else lkO (l.take i) off := by
  have : l.take (i + 1) = l.take i ++ [x] := by rw [List.take_add_one, h]; rfl
  rw [this]
  simp [lkO, List.foldl_append]
theorem lkT_take {l : List (Int × Int)} {i : Nat} {x : Int × Int} (h : l[i]? = some x) (t : Int) : lkT (l.take (i + 1)) t = if x.1 < t then max (lkT (l.take i) t) x.2 else lkT (l.take i) t := by
  have : l.take (i + 1) = l.take i ++ [x] := by rw [List.take_add_one, h]; rfl
  rw [this]
  simp [lkT, List.foldl_append]

theorem refLkO {l : List (Int × Int)} {off : Int} (hl : l.length ≤ 1000000) : CallOK Try.prog 78 [prsV l, .int .i64 off] [] 0 (Out (.int .i64 (lkO l off)) [] 0) := by
  refine CallOK.fit (by decide) ?_
  refine callOK Try.call78 Try.func78 Try.ntmps78 rfl ?_
  conv => arg 4; whnf
  refine tri_loopG (ι := LkI l) (fun a => ⟨[(6, .int .i64 a.i), (5, .int .i64 (lkO (l.take a.i) off)), (0, prsV l), (1, .int .i64 off)], [], 0, 26⟩) (fun a => l.length - a.i) ⟨0, Nat.zero_le _⟩ (WkG.of rfl rfl ⟨Le.refl _ _, Le.refl _ _, Le.refl _ _, Le.refl _ _, trivial⟩ trivial ⟨rfl, rfl, Cl.prsV l _, rfl, trivial⟩ trivial) ?_
  rintro ⟨i, hi⟩
  dsimp only
  conv => arg 4; whnf
  refine ⟨fun h => ?_, fun h => ?_⟩
  · have h : i < l.length := by rw [prs_length] at h; simp at h; omega
    obtain ⟨x, hx⟩ : ∃ x, l[i]? = some x := ⟨_, List.getElem?_eq_getElem h⟩
    conv => arg 4; whnf
    refine ⟨prA x, ⟨by omega, prs_get hx⟩, ?_⟩
    (conv => arg 4; whnf); repeat (refine ⟨rfl, ?_⟩; conv => arg 4; whnf)
    refine ⟨fun h2 => ?_, fun h2 => ?_⟩
    · have h2 : x.1 ≤ off := by simpa using h2
      (conv => arg 4; whnf); repeat (refine ⟨rfl, ?_⟩; conv => arg 4; whnf)
      refine ⟨_, ⟨by omega, prs_get hx⟩, ?_⟩
      (conv => arg 4; whnf); repeat (refine ⟨rfl, ?_⟩; conv => arg 4; whnf)
      exact ⟨⟨i + 1, by omega⟩, by show l.length - (i + 1) < l.length - i; omega, WkG.of rfl rfl ⟨Le.of_eq (succ_i64 (by omega)), Le.of_eq (congrArg (AV.int .i64) (by rw [lkO_take hx, if_pos h2])), Le.refl _ _, Le.refl _ _, trivial⟩ trivial ⟨rfl, rfl, Cl.prsV l _, rfl, trivial⟩ trivial⟩
    · have h2 : ¬ x.1 ≤ off := by simpa using h2
      (conv => arg 4; whnf); repeat (refine ⟨rfl, ?_⟩; conv => arg 4; whnf)
      exact ⟨⟨i + 1, by omega⟩, by show l.length - (i + 1) < l.length - i; omega, WkG.of rfl rfl ⟨Le.of_eq (succ_i64 (by omega)), Le.of_eq (congrArg (AV.int .i64) (by rw [lkO_take hx, if_neg h2])), Le.refl _ _, Le.refl _ _, trivial⟩ trivial ⟨rfl, rfl, Cl.prsV l _, rfl, trivial⟩ trivial⟩
  · have h : i = l.length := by rw [prs_length] at h; simp at h; omega
    conv => arg 4; whnf
    refine fin_exit ?_
    show holds _ _ _ _
    conv => arg 4; whnf
    rw [h, List.take_length]
    exact ⟨by decide, Le.refl _ _, trivial, (by (repeat' (first | with_reducible assumption | exact ClL.nil | exact Cl.int _ _ | exact Cl.bool _ | exact Cl.bl _ | exact Cl.bs _ | exact Cl.str _ | exact Cl.nils | exact Cl.nilp | exact Cl.rec _ | exact Cl.bat _ | exact Cl.recsV _ | exact Cl.strsV _ | exact Cl.intsV _ | exact Cl.req _ | exact Cl.rsp _ | exact Cl.reqA _ | exact Cl.rspA _ | exact Cl.batsV _ | exact Cl.prsV _ | exact Cl.atsV _ | exact Cl.entA _ _ | exact Cl.foundA _ | exact Cl.getB _ | exact Cl.encA _ | exact Cl.firstA _ | refine ClL.cons ?_ ?_ | refine Cl.tup ?_ | refine Cl.agg ?_ | exact ClO.RO _ _)) : Cl _) _, trivial⟩

theorem ixLkO {l : List (Int × Int)} {off : Int} (hl : l.length ≤ 1000000) : CallOK Try.prog 77 [prsV l, .int .i64 off] [] 0 (Out (.int .i64 (lkO l off)) [] 0) := by
  refine CallOK.fit (by decide) ?_
  refine callOK Try.call77 Try.func77 Try.ntmps77 rfl ?_
  conv => arg 4; whnf
  refine tri_loopG (ι := LkI l) (fun a => ⟨[(9, .int .i64 a.i), (8, .int .i64 (prsL l).length), (7, prsV l), (4, .int .i64 (lkO (l.take a.i) off)), (1, .int .i64 off)], [], 0, 21⟩) (fun a => l.length - a.i) ⟨0, Nat.zero_le _⟩ (WkG.of rfl rfl ⟨Le.refl _ _, Le.refl _ _, Le.refl _ _, Le.refl _ _, Le.refl _ _, trivial⟩ trivial ⟨rfl, rfl, Cl.prsV l _, rfl, rfl, trivial⟩ trivial) ?_
  rintro ⟨i, hi⟩
  dsimp only
  conv => arg 4; whnf
  refine ⟨fun h => ?_, fun h => ?_⟩
  · have h : i < l.length := by rw [prs_length] at h; simp at h; omega
    obtain ⟨x, hx⟩ : ∃ x, l[i]? = some x := ⟨_, List.getElem?_eq_getElem h⟩
    conv => arg 4; whnf
    refine ⟨prA x, ⟨by omega, prs_get hx⟩, ?_⟩
    (conv => arg 4; whnf); repeat (refine ⟨rfl, ?_⟩; conv => arg 4; whnf)
    refine ⟨fun h2 => ?_, fun h2 => ?_⟩
    · have h2 : x.1 ≤ off := by simpa using h2
      (conv => arg 4; whnf); repeat (refine ⟨rfl, ?_⟩; conv => arg 4; whnf)
      exact ⟨⟨i + 1, by omega⟩, by show l.length - (i + 1) < l.length - i; omega, WkG.of rfl rfl ⟨Le.of_eq (succ_i64 (by omega)), Le.refl _ _, Le.refl _ _, Le.of_eq (congrArg (AV.int .i64) (by rw [lkO_take hx, if_pos h2])), Le.refl _ _, trivial⟩ trivial ⟨rfl, rfl, Cl.prsV l _, rfl, rfl, trivial⟩ trivial⟩
    · have h2 : ¬ x.1 ≤ off := by simpa using h2
      (conv => arg 4; whnf); repeat (refine ⟨rfl, ?_⟩; conv => arg 4; whnf)
      exact ⟨⟨i + 1, by omega⟩, by show l.length - (i + 1) < l.length - i; omega, WkG.of rfl rfl ⟨Le.of_eq (succ_i64 (by omega)), Le.refl _ _, Le.refl _ _, Le.of_eq (congrArg (AV.int .i64) (by rw [lkO_take hx, if_neg h2])), Le.refl _ _, trivial⟩ trivial ⟨rfl, rfl, Cl.prsV l _, rfl, rfl, trivial⟩ trivial⟩
  · have h : i = l.length := by rw [prs_length] at h; simp at h; omega
    conv => arg 4; whnf
    refine fin_exit ?_
    show holds _ _ _ _
    conv => arg 4; whnf
    rw [h, List.take_length]
    exact ⟨by decide, Le.refl _ _, trivial, (by (repeat' (first | with_reducible assumption | exact ClL.nil | exact Cl.int _ _ | exact Cl.bool _ | exact Cl.bl _ | exact Cl.bs _ | exact Cl.str _ | exact Cl.nils | exact Cl.nilp | exact Cl.rec _ | exact Cl.bat _ | exact Cl.recsV _ | exact Cl.strsV _ | exact Cl.intsV _ | exact Cl.req _ | exact Cl.rsp _ | exact Cl.reqA _ | exact Cl.rspA _ | exact Cl.batsV _ | exact Cl.prsV _ | exact Cl.atsV _ | exact Cl.entA _ _ | exact Cl.foundA _ | exact Cl.getB _ | exact Cl.encA _ | exact Cl.firstA _ | refine ClL.cons ?_ ?_ | refine Cl.tup ?_ | refine Cl.agg ?_ | exact ClO.RO _ _)) : Cl _) _, trivial⟩
theorem tiLkT {l : List (Int × Int)} {off : Int} (hl : l.length ≤ 1000000) : CallOK Try.prog 66 [prsV l, .int .i64 off] [] 0 (Out (.int .i64 (lkT l off)) [] 0) := by
  refine CallOK.fit (by decide) ?_
  refine callOK Try.call66 Try.func66 Try.ntmps66 rfl ?_
  conv => arg 4; whnf
  refine tri_loopG (ι := LkI l) (fun a => ⟨[(9, .int .i64 a.i), (8, .int .i64 (prsL l).length), (7, prsV l), (4, .int .i64 (lkT (l.take a.i) off)), (1, .int .i64 off)], [], 0, 23⟩) (fun a => l.length - a.i) ⟨0, Nat.zero_le _⟩ (WkG.of rfl rfl ⟨Le.refl _ _, Le.refl _ _, Le.refl _ _, Le.refl _ _, Le.refl _ _, trivial⟩ trivial ⟨rfl, rfl, Cl.prsV l _, rfl, rfl, trivial⟩ trivial) ?_
  rintro ⟨i, hi⟩
  dsimp only
  conv => arg 4; whnf
  refine ⟨fun h => ?_, fun h => ?_⟩
  · have h : i < l.length := by rw [prs_length] at h; simp at h; omega
    obtain ⟨x, hx⟩ : ∃ x, l[i]? = some x := ⟨_, List.getElem?_eq_getElem h⟩
    conv => arg 4; whnf
    refine ⟨prA x, ⟨by omega, prs_get hx⟩, ?_⟩
    (conv => arg 4; whnf); repeat (refine ⟨rfl, ?_⟩; conv => arg 4; whnf)
    refine ⟨fun h2 => ?_, fun h2 => ?_⟩
    · have h2 : x.1 < off := by simpa using h2
      (conv => arg 4; whnf); repeat (refine ⟨rfl, ?_⟩; conv => arg 4; whnf)
      exact ⟨⟨i + 1, by omega⟩, by show l.length - (i + 1) < l.length - i; omega, WkG.of rfl rfl ⟨Le.of_eq (succ_i64 (by omega)), Le.refl _ _, Le.refl _ _, Le.of_eq (congrArg (AV.int .i64) (by rw [lkT_take hx, if_pos h2]; exact maxG _ _)), Le.refl _ _, trivial⟩ trivial ⟨rfl, rfl, Cl.prsV l _, rfl, rfl, trivial⟩ trivial⟩
    · have h2 : ¬ x.1 < off := by simpa using h2
      (conv => arg 4; whnf); repeat (refine ⟨rfl, ?_⟩; conv => arg 4; whnf)
      exact ⟨⟨i + 1, by omega⟩, by show l.length - (i + 1) < l.length - i; omega, WkG.of rfl rfl ⟨Le.of_eq (succ_i64 (by omega)), Le.refl _ _, Le.refl _ _, Le.of_eq (congrArg (AV.int .i64) (by rw [lkT_take hx, if_neg h2])), Le.refl _ _, trivial⟩ trivial ⟨rfl, rfl, Cl.prsV l _, rfl, rfl, trivial⟩ trivial⟩
  · have h : i = l.length := by rw [prs_length] at h; simp at h; omega
    conv => arg 4; whnf
    refine fin_exit ?_
    show holds _ _ _ _
    conv => arg 4; whnf
    rw [h, List.take_length]
    exact ⟨by decide, Le.refl _ _, trivial, (by (repeat' (first | with_reducible assumption | exact ClL.nil | exact Cl.int _ _ | exact Cl.bool _ | exact Cl.bl _ | exact Cl.bs _ | exact Cl.str _ | exact Cl.nils | exact Cl.nilp | exact Cl.rec _ | exact Cl.bat _ | exact Cl.recsV _ | exact Cl.strsV _ | exact Cl.intsV _ | exact Cl.req _ | exact Cl.rsp _ | exact Cl.reqA _ | exact Cl.rspA _ | exact Cl.batsV _ | exact Cl.prsV _ | exact Cl.atsV _ | exact Cl.entA _ _ | exact Cl.foundA _ | exact Cl.getB _ | exact Cl.encA _ | exact Cl.firstA _ | refine ClL.cons ?_ ?_ | refine Cl.tup ?_ | refine Cl.agg ?_ | exact ClO.RO _ _)) : Cl _) _, trivial⟩
structure AlI (p : List UInt8) where
  at_ : Nat
  last : Int
  l : List (Nat × Bat)
  s : Nat
  hat : at_ ≤ p.length
  hl : l = [] ∧ last = -1 ∨ ∃ m x, l = m ++ [x] ∧ x.2.last = last
  h : allP p 0 (-1) = l ++ allP p at_ last

theorem refAll {p : List UInt8} (hl : p.length ≤ 100000000) : CallOK Try.prog 61 [bs p] [] 0 (Out (atsV (allP p 0 (-1))) [] 0) := by
  refine CallOK.fit (by decide) ?_
  refine callOK Try.call61 Try.func61 Try.ntmps61 rfl ?_
  conv => arg 4; whnf
  refine tri_loopG (ι := AlI p) (fun a => ⟨[(4, .int .i64 a.at_), (3, .sl (.tok 0 a.s) 7 (atsL a.l)), (0, bs p)], [(0, .tip a.s)], 1, 44⟩) (fun a => p.length + 1 - a.at_) ⟨0, -1, [], 0, Nat.zero_le _, .inl ⟨rfl, rfl⟩, rfl⟩ (WkG.tok rfl rfl ⟨Le.refl _ _, Le.nilsTok rfl, Le.refl _ _, trivial⟩ ⟨⟨_, rfl, rfl⟩, trivial⟩ ⟨rfl, rfl, Cl.bs p _, trivial⟩ ⟨⟨by decide, rfl⟩, trivial⟩) ?_
  rintro ⟨at_, last, l, s, hat, hl2, hh⟩
  dsimp only
  conv => arg 4; whnf
  refine ⟨by rw [u8s_length]; omega, ?_⟩
  (conv => arg 4; whnf); repeat (refine ⟨rfl, ?_⟩; conv => arg 4; whnf)
  refine holds_args (args' := [bs (p.drop at_)]) ⟨Le.of_eq (congrArg (AV.sl .none 0) (by rw [Int.toNat_natCast, u8s_drop])), trivial⟩ ?_
  refine call0 (refFirst' (p := p.drop at_) (by simp; omega)) (by (repeat' (first | with_reducible assumption | exact ClL.nil | exact Cl.int _ _ | exact Cl.bool _ | exact Cl.bl _ | exact Cl.bs _ | exact Cl.str _ | exact Cl.nils | exact Cl.nilp | exact Cl.rec _ | exact Cl.bat _ | exact Cl.recsV _ | exact Cl.strsV _ | exact Cl.intsV _ | exact Cl.req _ | exact Cl.rsp _ | exact Cl.reqA _ | exact Cl.rspA _ | exact Cl.batsV _ | exact Cl.prsV _ | exact Cl.atsV _ | exact Cl.entA _ _ | exact Cl.foundA _ | exact Cl.getB _ | exact Cl.encA _ | exact Cl.firstA _ | refine ClL.cons ?_ ?_ | refine Cl.tup ?_ | refine Cl.agg ?_ | exact ClO.RO _ _))) (by (repeat' (first | with_reducible assumption | exact ClL.nil | exact Cl.int _ _ | exact Cl.bool _ | exact Cl.bl _ | exact Cl.bs _ | exact Cl.str _ | exact Cl.nils | exact Cl.nilp | exact Cl.rec _ | exact Cl.bat _ | exact Cl.recsV _ | exact Cl.strsV _ | exact Cl.intsV _ | exact Cl.req _ | exact Cl.rsp _ | exact Cl.reqA _ | exact Cl.rspA _ | exact Cl.batsV _ | exact Cl.prsV _ | exact Cl.atsV _ | exact Cl.entA _ _ | exact Cl.foundA _ | exact Cl.getB _ | exact Cl.encA _ | exact Cl.firstA _ | refine ClL.cons ?_ ?_ | refine Cl.tup ?_ | refine Cl.agg ?_ | exact ClO.RO _ _))) ?_
  (conv => arg 4; whnf); repeat (refine ⟨rfl, ?_⟩; conv => arg 4; whnf)
  refine ⟨fun h => ?_, fun h => ?_⟩
  · have h : firstN (p.drop at_) = 0 := by simpa using h
    have hno : ¬ (firstE (p.drop at_) = 0 ∧ last < (firstB (p.drop at_)).base) := fun h2 => by have := first_len h2.1; omega
    rw [allP_no hno, List.append_nil] at hh
    (conv => arg 4; whnf); repeat (refine ⟨rfl, ?_⟩; conv => arg 4; whnf)
    refine fin_ret ?_
    show holds _ _ _ _
    conv => arg 4; whnf
    rw [hh]
    exact ⟨by decide, by (repeat' (first | with_reducible exact Le.refl _ _ | exact Le.bl | exact Le.lb | exact Le.nils | exact Le.nilsFull | exact Le.none | exact LeL.nil _ | refine LeL.cons ?_ ?_ | refine Le.tup ?_ | refine Le.agg ?_ | exact Le.refl _ _ | exact LeL.refl _ _)), trivial, (by (repeat' (first | with_reducible assumption | exact ClL.nil | exact Cl.int _ _ | exact Cl.bool _ | exact Cl.bl _ | exact Cl.bs _ | exact Cl.str _ | exact Cl.nils | exact Cl.nilp | exact Cl.rec _ | exact Cl.bat _ | exact Cl.recsV _ | exact Cl.strsV _ | exact Cl.intsV _ | exact Cl.req _ | exact Cl.rsp _ | exact Cl.reqA _ | exact Cl.rspA _ | exact Cl.batsV _ | exact Cl.prsV _ | exact Cl.atsV _ | exact Cl.entA _ _ | exact Cl.foundA _ | exact Cl.getB _ | exact Cl.encA _ | exact Cl.firstA _ | refine ClL.cons ?_ ?_ | refine Cl.tup ?_ | refine Cl.agg ?_ | exact ClO.RO _ _)) : Cl _) _, trivial⟩
  · have h : firstN (p.drop at_) ≠ 0 := by simpa using h
    have hE : firstE (p.drop at_) = 0 := by
      by_cases h2 : firstE (p.drop at_) = 0
      · exact h2
      · exact absurd (first_no h2).2.2.1 h
    have hf := first_len hE
    have hfl := hf.2.1
    rw [List.length_drop] at hfl
    have hb0 := chk_nums (first_yes hE).1.1
    have hll := allP_len p 0 (-1)
    rw [hh, List.length_append] at hll
    have hw : IntKind.i64.wrap ((at_ : Int) + (firstN (p.drop at_) : Int)) = ((at_ + firstN (p.drop at_) : Nat) : Int) := by
      rw [IntKind.wrap_i64]; omega
    conv => arg 4; whnf
    refine ⟨fun h2 => ?_, fun h2 => ?_⟩
    · have h2 : l ≠ [] := by rintro rfl; simp [atsL] at h2
      rcases hl2 with ⟨h3, -⟩ | ⟨m, x, rfl, hx⟩
      · exact absurd h3 h2
      rw [List.length_append, List.length_singleton] at hll
      have hix : IntKind.i64.wrap (((atsL (m ++ [x])).length : Int) - 1) = (m.length : Int) := by
        rw [ats_length, IntKind.wrap_i64, List.length_append, List.length_singleton]; omega
      (conv => arg 4; whnf); repeat (refine ⟨rfl, ?_⟩; conv => arg 4; whnf)
      refine ⟨atA x, ⟨by rw [hix]; omega, by rw [hix]; exact ats_get (by simp)⟩, ?_⟩
      (conv => arg 4; whnf); repeat (refine ⟨rfl, ?_⟩; conv => arg 4; whnf)
      refine ⟨fun h3 => ?_, fun h3 => ?_⟩
      · have h3 : (firstB (p.drop at_)).base ≤ x.2.last := by simpa using h3
        have hno : ¬ (firstE (p.drop at_) = 0 ∧ last < (firstB (p.drop at_)).base) := fun h2 => by omega
        rw [allP_no hno, List.append_nil] at hh
        (conv => arg 4; whnf); repeat (refine ⟨rfl, ?_⟩; conv => arg 4; whnf)
        refine fin_ret ?_
        show holds _ _ _ _
        conv => arg 4; whnf
        rw [hh]
        exact ⟨by decide, by (repeat' (first | with_reducible exact Le.refl _ _ | exact Le.bl | exact Le.lb | exact Le.nils | exact Le.nilsFull | exact Le.none | exact LeL.nil _ | refine LeL.cons ?_ ?_ | refine Le.tup ?_ | refine Le.agg ?_ | exact Le.refl _ _ | exact LeL.refl _ _)), trivial, (by (repeat' (first | with_reducible assumption | exact ClL.nil | exact Cl.int _ _ | exact Cl.bool _ | exact Cl.bl _ | exact Cl.bs _ | exact Cl.str _ | exact Cl.nils | exact Cl.nilp | exact Cl.rec _ | exact Cl.bat _ | exact Cl.recsV _ | exact Cl.strsV _ | exact Cl.intsV _ | exact Cl.req _ | exact Cl.rsp _ | exact Cl.reqA _ | exact Cl.rspA _ | exact Cl.batsV _ | exact Cl.prsV _ | exact Cl.atsV _ | exact Cl.entA _ _ | exact Cl.foundA _ | exact Cl.getB _ | exact Cl.encA _ | exact Cl.firstA _ | refine ClL.cons ?_ ?_ | refine Cl.tup ?_ | refine Cl.agg ?_ | exact ClO.RO _ _)) : Cl _) _, trivial⟩
      · have h3 : ¬ (firstB (p.drop at_)).base ≤ x.2.last := by simpa using h3
        (conv => arg 4; whnf); repeat (refine ⟨rfl, ?_⟩; conv => arg 4; whnf)
        refine ⟨⟨rfl, sizeOk 72 rfl (by rw [List.length_append, ats_length, List.length_append]; simp only [List.length_cons, List.length_nil]; omega)⟩, ?_⟩
        conv => arg 4; whnf
        refine ⟨⟨at_ + firstN (p.drop at_), (firstB (p.drop at_)).last, m ++ [x] ++ [(at_, firstB (p.drop at_))], s + 1, by omega, .inr ⟨_, _, rfl, rfl⟩, by rw [hh, allP_yes hE (by omega)]; simp⟩, by show p.length + 1 - (at_ + firstN (p.drop at_)) < p.length + 1 - at_; omega, WkG.of rfl rfl ⟨Le.of_eq (congrArg _ hw), Le.of_eq (congrArg (AV.sl (.tok 0 (s + 1)) 7) (ats_snoc _ (at_, firstB (p.drop at_)))), Le.refl _ _, trivial⟩ ⟨⟨_, rfl, LeO.refl _ _⟩, trivial⟩ ⟨rfl, cut_sl (ClL.ats _) rfl, Cl.bs p _, trivial⟩ ⟨⟨by decide, rfl⟩, trivial⟩⟩
    · have h2 : l = [] := by rw [ats_length] at h2; simp at h2; exact h2
      subst h2
      have hl3 : last = -1 := by
        rcases hl2 with ⟨-, h3⟩ | ⟨m, x, h3, -⟩
        · exact h3
        · simp at h3
      (conv => arg 4; whnf); repeat (refine ⟨rfl, ?_⟩; conv => arg 4; whnf)
      refine ⟨⟨rfl, sizeOk 72 rfl (by simp [atsL])⟩, ?_⟩
      conv => arg 4; whnf
      refine ⟨⟨at_ + firstN (p.drop at_), (firstB (p.drop at_)).last, [] ++ [(at_, firstB (p.drop at_))], s + 1, by omega, .inr ⟨_, _, rfl, rfl⟩, by rw [hh, allP_yes hE (by omega)]; simp⟩, by show p.length + 1 - (at_ + firstN (p.drop at_)) < p.length + 1 - at_; omega, WkG.of rfl rfl ⟨Le.of_eq (congrArg _ hw), Le.of_eq (congrArg (AV.sl (.tok 0 (s + 1)) 7) (ats_snoc _ (at_, firstB (p.drop at_)))), Le.refl _ _, trivial⟩ ⟨⟨_, rfl, LeO.refl _ _⟩, trivial⟩ ⟨rfl, cut_sl (ClL.ats _) rfl, Cl.bs p _, trivial⟩ ⟨⟨by decide, rfl⟩, trivial⟩⟩
end Go.Proofs.Ytejocegoockacaa.Ix

namespace Go.Proofs.Ytejocegoockacaa.Ix
set_option maxRecDepth 100000
set_option maxHeartbeats 80000000
open Go.Sym

structure BdI (p : List UInt8) (every : Int) where
  at_ : Nat
  last : Int
  lst : Nat
  most : Int
  l : List (Int × Int × Int)
  s : Nat
  hat : at_ ≤ p.length
  hlst : lst ≤ at_
  hm : 0 ≤ most ∧ most ≤ 1125899906842624
  h : bldP p every = l ++ bld (max every 1) lst most (allP p at_ last)

theorem maxE (every : Int) : (if 1 > every then 1 else every) = max every 1 := by split <;> omega
theorem bld_yes {e last most : Int} {a : Nat} {b : Bat} {l : List (Nat × Bat)} (h : e ≤ a - last) : bld e last most ((a, b) :: l) = ((a : Int), b.base, most) :: bld e a (max most b.most) l := by rw [bld, if_pos h]
theorem bld_no {e last most : Int} {a : Nat} {b : Bat} {l : List (Nat × Bat)} (h : ¬ e ≤ a - last) : bld e last most ((a, b) :: l) = bld e last (max most b.most) l := by rw [bld, if_neg h]

theorem pr_step (l : List (Int × Int × Int)) (t : Int × Int × Int) : prsL (l.map eO) ++ [prA (eO t)] = prsL ((l ++ [t]).map eO) := by simp [prsL]
theorem pr_stepT (l : List (Int × Int × Int)) (t : Int × Int × Int) : prsL (l.map eT) ++ [prA (eT t)] = prsL ((l ++ [t]).map eT) := by simp [prsL]
theorem ob_cut {n nx k : Nat} {p : Perm} {l : List AV} (h : ClL l) (hp : renP (cut n nx) p = p) : renO (cut n nx) (.cells [.sl p k l]) = .cells [.sl p k l] := by simp only [renO, renL, ren, h _, hp]

theorem ixBuild {p : List UInt8} {every : Int} (hl : p.length ≤ 100000000) : CallOK Try.prog 60 [bs p, .int .i64 every] [] 0 (Out (prsV ((bldP p every).map eO)) [] 0) := by
  refine CallOK.fit (by decide) ?_
  refine callOK Try.call60 Try.func60 Try.ntmps60 rfl ?_
  conv => arg 4; whnf
  refine holds_out [] (batAll (p := p)) rfl trivial (ClL.cons (Cl.bs p) ClL.nil _).symm ?_
  conv => arg 4; whnf
  simp only [renL_u8s]
  refine holds_pre (args' := [.yld 4, .ptr 3 0]) (h' := (4, .loop _ _ _ _ _ _) :: (3, .cells [bs p]) :: (2, .cells [.int .i64 0]) :: (1, .cells [.sl (.tok 5 0) 2 (prsL [])]) :: (0, .cells [.int .i64 every]) :: [(5, .tip 0)]) (nx' := 6)
    ((Gh.token _ _ _ _).trans (Gh.le (fun _ => Le.refl _ _) (HeapLe.le ⟨⟨_, rfl, LeO.refl _ _⟩, ⟨_, rfl, LeO.refl _ _⟩, ⟨_, rfl, LeO.refl _ _⟩, ⟨_, rfl, LeL.cons (Le.nilsTok rfl) (LeL.nil _)⟩, ⟨_, rfl, LeO.refl _ _⟩, ⟨_, rfl, rfl⟩, trivial⟩))) rfl ?_
  refine callOK Try.call115 Try.func115 Try.ntmps115 rfl ?_
  conv => arg 4; whnf
  refine tri_loopG (ι := BdI p every) (fun a => ⟨[(4, .int .i64 a.last), (3, .int .i64 a.at_), (0, .yld 4), (1, .ptr 3 0)], [(4, loopOf Try.f60 0 [(5, .ptr 2 0), (4, .ptr 1 0), (3, .ptr 0 0)] 27 .ready), (3, .cells [bs p]), (2, .cells [.int .i64 a.lst]), (1, .cells [.sl (.tok 5 a.s) 2 (prsL (a.l.map eO))]), (0, .cells [.int .i64 every]), (5, .tip a.s)], 6, 40⟩) (fun a => p.length - a.at_) ⟨0, -1, 0, 0, [], 0, Nat.zero_le _, Nat.zero_le _, by decide, rfl⟩ ?_ ?_
  · exact WkG.of rfl rfl ⟨Le.refl _ _, Le.refl _ _, Le.refl _ _, Le.refl _ _, trivial⟩ ⟨⟨_, rfl, LeO.loop ⟨Le.refl _ _, Le.refl _ _, Le.refl _ _, trivial⟩ rfl rfl rfl⟩, ⟨_, rfl, LeO.refl _ _⟩, ⟨_, rfl, LeO.refl _ _⟩, ⟨_, rfl, LeO.refl _ _⟩, ⟨_, rfl, LeO.refl _ _⟩, ⟨_, rfl, LeO.refl _ _⟩, trivial⟩ ⟨rfl, rfl, rfl, rfl, trivial⟩ ⟨⟨by decide, rfl⟩, ⟨by decide, ClO.cells (by (repeat' (first | with_reducible assumption | exact ClL.nil | exact Cl.int _ _ | exact Cl.bool _ | exact Cl.bl _ | exact Cl.bs _ | exact Cl.str _ | exact Cl.nils | exact Cl.nilp | exact Cl.rec _ | exact Cl.bat _ | exact Cl.recsV _ | exact Cl.strsV _ | exact Cl.intsV _ | exact Cl.req _ | exact Cl.rsp _ | exact Cl.reqA _ | exact Cl.rspA _ | exact Cl.batsV _ | exact Cl.prsV _ | exact Cl.atsV _ | exact Cl.entA _ _ | exact Cl.foundA _ | exact Cl.getB _ | exact Cl.encA _ | exact Cl.firstA _ | refine ClL.cons ?_ ?_ | refine Cl.tup ?_ | refine Cl.agg ?_ | exact ClO.RO _ _))) _⟩, ⟨by decide, rfl⟩, ⟨by decide, rfl⟩, ⟨by decide, rfl⟩, ⟨by decide, rfl⟩, trivial⟩
  rintro ⟨at_, last, lst, most, l, s, hat, hlst, hm, hh⟩
  dsimp only
  have hll : 50 * l.length ≤ p.length := by
    have := bldP_len p every
    rw [hh, List.length_append] at this
    omega
  conv => arg 4; whnf
  refine ⟨fun hlt => ?_, fun hlt => ?_⟩
  · have hlt : at_ < p.length := by rw [u8s_length] at hlt; simp at hlt; omega
    (conv => arg 4; whnf); repeat (refine ⟨rfl, ?_⟩; conv => arg 4; whnf)
    (repeat (refine ⟨by first | (rw [u8s_length]; omega) | (simp only [u8s_length]; omega) | omega | decide, ?_⟩; conv => arg 4; whnf))
    refine holds_args (args' := [bs (p.drop at_)]) ⟨Le.of_eq (congrArg (AV.sl .none 0) (by rw [Int.toNat_natCast, u8s_drop])), trivial⟩ ?_
    refine call0 (batFirst' (p := p.drop at_) (by simp; omega)) (by (repeat' (first | with_reducible assumption | exact ClL.nil | exact Cl.int _ _ | exact Cl.bool _ | exact Cl.bl _ | exact Cl.bs _ | exact Cl.str _ | exact Cl.nils | exact Cl.nilp | exact Cl.rec _ | exact Cl.bat _ | exact Cl.recsV _ | exact Cl.strsV _ | exact Cl.intsV _ | exact Cl.req _ | exact Cl.rsp _ | exact Cl.reqA _ | exact Cl.rspA _ | exact Cl.batsV _ | exact Cl.prsV _ | exact Cl.atsV _ | exact Cl.entA _ _ | exact Cl.foundA _ | exact Cl.getB _ | exact Cl.encA _ | exact Cl.firstA _ | refine ClL.cons ?_ ?_ | refine Cl.tup ?_ | refine Cl.agg ?_ | exact ClO.RO _ _))) (Cl.firstA _) ?_
    (conv => arg 4; whnf); repeat (refine ⟨rfl, ?_⟩; conv => arg 4; whnf)
    refine ⟨fun hb => ?_, fun hb => ?_⟩
    · simp only [Bool.cond_true_left, Bool.cond_false_right, Bool.or_eq_true, Bool.and_eq_true, Bool.not_eq_true', decide_eq_true_eq, beq_iff_eq, bne_iff_ne, u8s_length, Bool.not_eq_true, gt_iff_lt, ge_iff_le] at hb
      have hno : allP p at_ last = [] := allP_no (by omega)
      rw [hno, bld, List.append_nil] at hh
      (conv => arg 4; whnf); repeat (refine ⟨rfl, ?_⟩; conv => arg 4; whnf)
      refine fin_exit ?_
      show holds _ _ _ _
      conv => arg 4; whnf
      refine ret_in ?_
      show holds _ _ _ _
      conv => arg 4; whnf
      rw [hh]
      exact ⟨by decide, by (repeat' (first | with_reducible exact Le.refl _ _ | exact Le.bl | exact Le.lb | exact Le.nils | exact Le.nilsFull | exact Le.none | exact LeL.nil _ | refine LeL.cons ?_ ?_ | refine Le.tup ?_ | refine Le.agg ?_ | exact Le.refl _ _ | exact LeL.refl _ _)), trivial, (by (repeat' (first | with_reducible assumption | exact ClL.nil | exact Cl.int _ _ | exact Cl.bool _ | exact Cl.bl _ | exact Cl.bs _ | exact Cl.str _ | exact Cl.nils | exact Cl.nilp | exact Cl.rec _ | exact Cl.bat _ | exact Cl.recsV _ | exact Cl.strsV _ | exact Cl.intsV _ | exact Cl.req _ | exact Cl.rsp _ | exact Cl.reqA _ | exact Cl.rspA _ | exact Cl.batsV _ | exact Cl.prsV _ | exact Cl.atsV _ | exact Cl.entA _ _ | exact Cl.foundA _ | exact Cl.getB _ | exact Cl.encA _ | exact Cl.firstA _ | refine ClL.cons ?_ ?_ | refine Cl.tup ?_ | refine Cl.agg ?_ | exact ClO.RO _ _)) : Cl _) _, trivial⟩
    · rw [← Bool.not_eq_true] at hb; simp only [Bool.cond_true_left, Bool.cond_false_right, Bool.or_eq_true, Bool.and_eq_true, Bool.not_eq_true', decide_eq_true_eq, beq_iff_eq, bne_iff_ne, u8s_length, gt_iff_lt, ge_iff_le] at hb
      have hyes := allP_yes (p := p) (a := at_) (last := last) (by omega) (by omega)
      have hf := first_len (q := p.drop at_) (by omega)
      have hfl := hf.2.1
      rw [List.length_drop] at hfl
      have hbm := most_le (first_yes (p := p.drop at_) (by omega)).1.1
      have hw : IntKind.i64.wrap ((at_ : Int) + (firstN (p.drop at_) : Int)) = ((at_ + firstN (p.drop at_) : Nat) : Int) := by
        rw [IntKind.wrap_i64]; omega
      have hd : IntKind.i64.wrap ((at_ : Int) - (lst : Int)) = (at_ : Int) - lst := by
        rw [IntKind.wrap_i64]; omega
      (conv => arg 4; whnf); repeat (refine ⟨rfl, ?_⟩; conv => arg 4; whnf)
      refine round_in ?_
      conv => arg 4; whnf
      refine ⟨fun hc => ?_, fun hc => ?_⟩
      · have hc : max every 1 ≤ (at_ : Int) - lst := by rw [hd, maxE] at hc; simpa using hc
        (conv => arg 4; whnf); repeat (refine ⟨rfl, ?_⟩; conv => arg 4; whnf)
        refine ⟨⟨rfl, sizeOk 16 rfl (by rw [List.length_append, prs_length, List.length_map]; simp only [List.length_cons, List.length_nil]; omega)⟩, ?_⟩
        (conv => arg 4; whnf); repeat (refine ⟨rfl, ?_⟩; conv => arg 4; whnf)
        refine ⟨fun h => absurd h (by first | (simp; done) | (simp [u8s]; done)), fun _ => ?_⟩
        conv => arg 4; whnf
        refine ⟨⟨at_ + firstN (p.drop at_), (firstB (p.drop at_)).last, at_, max most (firstB (p.drop at_)).most, l ++ [((at_ : Int), (firstB (p.drop at_)).base, most)], s + 1, by omega, by omega, by omega, by rw [hh, hyes, bld_yes hc]; simp⟩, by show p.length - (at_ + firstN (p.drop at_)) < p.length - at_; omega, WkG.of rfl rfl ⟨Le.refl _ _, Le.of_eq (congrArg _ hw), Le.refl _ _, Le.refl _ _, trivial⟩ ⟨⟨_, rfl, LeO.loop ⟨Le.refl _ _, Le.refl _ _, Le.refl _ _, trivial⟩ rfl rfl rfl⟩, ⟨_, rfl, LeO.refl _ _⟩, ⟨_, rfl, LeO.refl _ _⟩, ⟨_, rfl, LeL.cons (Le.of_eq (congrArg (AV.sl (.tok 5 (s + 1)) 2) (pr_step l ((at_ : Int), (firstB (p.drop at_)).base, most)))) (LeL.nil _)⟩, ⟨_, rfl, LeO.refl _ _⟩, ⟨_, rfl, LeO.refl _ _⟩, trivial⟩ ⟨rfl, rfl, rfl, rfl, trivial⟩ ⟨⟨by decide, rfl⟩, ⟨by decide, ClO.cells (by (repeat' (first | with_reducible assumption | exact ClL.nil | exact Cl.int _ _ | exact Cl.bool _ | exact Cl.bl _ | exact Cl.bs _ | exact Cl.str _ | exact Cl.nils | exact Cl.nilp | exact Cl.rec _ | exact Cl.bat _ | exact Cl.recsV _ | exact Cl.strsV _ | exact Cl.intsV _ | exact Cl.req _ | exact Cl.rsp _ | exact Cl.reqA _ | exact Cl.rspA _ | exact Cl.batsV _ | exact Cl.prsV _ | exact Cl.atsV _ | exact Cl.entA _ _ | exact Cl.foundA _ | exact Cl.getB _ | exact Cl.encA _ | exact Cl.firstA _ | refine ClL.cons ?_ ?_ | refine Cl.tup ?_ | refine Cl.agg ?_ | exact ClO.RO _ _))) _⟩, ⟨by decide, rfl⟩, ⟨by decide, ob_cut (ClL.prs _) rfl⟩, ⟨by decide, rfl⟩, ⟨by decide, rfl⟩, trivial⟩⟩
      · have hc : ¬ max every 1 ≤ (at_ : Int) - lst := by rw [hd, maxE] at hc; simpa using hc
        (conv => arg 4; whnf); repeat (refine ⟨rfl, ?_⟩; conv => arg 4; whnf)
        refine ⟨fun h => absurd h (by first | (simp; done) | (simp [u8s]; done)), fun _ => ?_⟩
        conv => arg 4; whnf
        refine ⟨⟨at_ + firstN (p.drop at_), (firstB (p.drop at_)).last, lst, max most (firstB (p.drop at_)).most, l, s, by omega, by omega, by omega, by rw [hh, hyes, bld_no hc]⟩, by show p.length - (at_ + firstN (p.drop at_)) < p.length - at_; omega, WkG.of rfl rfl ⟨Le.refl _ _, Le.of_eq (congrArg _ hw), Le.refl _ _, Le.refl _ _, trivial⟩ ⟨⟨_, rfl, LeO.loop ⟨Le.refl _ _, Le.refl _ _, Le.refl _ _, trivial⟩ rfl rfl rfl⟩, ⟨_, rfl, LeO.refl _ _⟩, ⟨_, rfl, LeO.refl _ _⟩, ⟨_, rfl, LeO.refl _ _⟩, ⟨_, rfl, LeO.refl _ _⟩, ⟨_, rfl, LeO.refl _ _⟩, trivial⟩ ⟨rfl, rfl, rfl, rfl, trivial⟩ ⟨⟨by decide, rfl⟩, ⟨by decide, ClO.cells (by (repeat' (first | with_reducible assumption | exact ClL.nil | exact Cl.int _ _ | exact Cl.bool _ | exact Cl.bl _ | exact Cl.bs _ | exact Cl.str _ | exact Cl.nils | exact Cl.nilp | exact Cl.rec _ | exact Cl.bat _ | exact Cl.recsV _ | exact Cl.strsV _ | exact Cl.intsV _ | exact Cl.req _ | exact Cl.rsp _ | exact Cl.reqA _ | exact Cl.rspA _ | exact Cl.batsV _ | exact Cl.prsV _ | exact Cl.atsV _ | exact Cl.entA _ _ | exact Cl.foundA _ | exact Cl.getB _ | exact Cl.encA _ | exact Cl.firstA _ | refine ClL.cons ?_ ?_ | refine Cl.tup ?_ | refine Cl.agg ?_ | exact ClO.RO _ _))) _⟩, ⟨by decide, rfl⟩, ⟨by decide, ob_cut (ClL.prs _) rfl⟩, ⟨by decide, rfl⟩, ⟨by decide, rfl⟩, trivial⟩⟩
  · have hlt : at_ = p.length := by rw [u8s_length] at hlt; simp at hlt; omega
    have hno : allP p at_ last = [] := allP_end (by omega)
    rw [hno, bld, List.append_nil] at hh
    conv => arg 4; whnf
    refine fin_exit ?_
    show holds _ _ _ _
    conv => arg 4; whnf
    refine ret_in ?_
    show holds _ _ _ _
    conv => arg 4; whnf
    rw [hh]
    exact ⟨by decide, by (repeat' (first | with_reducible exact Le.refl _ _ | exact Le.bl | exact Le.lb | exact Le.nils | exact Le.nilsFull | exact Le.none | exact LeL.nil _ | refine LeL.cons ?_ ?_ | refine Le.tup ?_ | refine Le.agg ?_ | exact Le.refl _ _ | exact LeL.refl _ _)), trivial, (by (repeat' (first | with_reducible assumption | exact ClL.nil | exact Cl.int _ _ | exact Cl.bool _ | exact Cl.bl _ | exact Cl.bs _ | exact Cl.str _ | exact Cl.nils | exact Cl.nilp | exact Cl.rec _ | exact Cl.bat _ | exact Cl.recsV _ | exact Cl.strsV _ | exact Cl.intsV _ | exact Cl.req _ | exact Cl.rsp _ | exact Cl.reqA _ | exact Cl.rspA _ | exact Cl.batsV _ | exact Cl.prsV _ | exact Cl.atsV _ | exact Cl.entA _ _ | exact Cl.foundA _ | exact Cl.getB _ | exact Cl.encA _ | exact Cl.firstA _ | refine ClL.cons ?_ ?_ | refine Cl.tup ?_ | refine Cl.agg ?_ | exact ClO.RO _ _)) : Cl _) _, trivial⟩
theorem tiBuild {p : List UInt8} {every : Int} (hl : p.length ≤ 100000000) : CallOK Try.prog 63 [bs p, .int .i64 every] [] 0 (Out (prsV ((bldP p every).map eT)) [] 0) := by
  refine CallOK.fit (by decide) ?_
  refine callOK Try.call63 Try.func63 Try.ntmps63 rfl ?_
  conv => arg 4; whnf
  refine holds_out [] (batAll (p := p)) rfl trivial (ClL.cons (Cl.bs p) ClL.nil _).symm ?_
  conv => arg 4; whnf
  simp only [renL_u8s]
  refine holds_pre (args' := [.yld 5, .ptr 4 0]) (h' := (5, .loop _ _ _ _ _ _) :: (4, .cells [bs p]) :: (3, .cells [.int .i64 0]) :: (2, .cells [.int .i64 0]) :: (1, .cells [.sl (.tok 6 0) 2 (prsL [])]) :: (0, .cells [.int .i64 every]) :: [(6, .tip 0)]) (nx' := 7)
    ((Gh.token _ _ _ _).trans (Gh.le (fun _ => Le.refl _ _) (HeapLe.le ⟨⟨_, rfl, LeO.refl _ _⟩, ⟨_, rfl, LeO.refl _ _⟩, ⟨_, rfl, LeO.refl _ _⟩, ⟨_, rfl, LeO.refl _ _⟩, ⟨_, rfl, LeL.cons (Le.nilsTok rfl) (LeL.nil _)⟩, ⟨_, rfl, LeO.refl _ _⟩, ⟨_, rfl, rfl⟩, trivial⟩))) rfl ?_
  refine callOK Try.call115 Try.func115 Try.ntmps115 rfl ?_
  conv => arg 4; whnf
  refine tri_loopG (ι := BdI p every) (fun a => ⟨[(4, .int .i64 a.last), (3, .int .i64 a.at_), (0, .yld 5), (1, .ptr 4 0)], [(5, loopOf Try.f63 0 [(6, .ptr 3 0), (5, .ptr 2 0), (4, .ptr 1 0), (3, .ptr 0 0)] 38 .ready), (4, .cells [bs p]), (3, .cells [.int .i64 a.most]), (2, .cells [.int .i64 a.lst]), (1, .cells [.sl (.tok 6 a.s) 2 (prsL (a.l.map eT))]), (0, .cells [.int .i64 every]), (6, .tip a.s)], 7, 40⟩) (fun a => p.length - a.at_) ⟨0, -1, 0, 0, [], 0, Nat.zero_le _, Nat.zero_le _, by decide, rfl⟩ ?_ ?_
  · exact WkG.of rfl rfl ⟨Le.refl _ _, Le.refl _ _, Le.refl _ _, Le.refl _ _, trivial⟩ ⟨⟨_, rfl, LeO.loop ⟨Le.refl _ _, Le.refl _ _, Le.refl _ _, Le.refl _ _, trivial⟩ rfl rfl rfl⟩, ⟨_, rfl, LeO.refl _ _⟩, ⟨_, rfl, LeO.refl _ _⟩, ⟨_, rfl, LeO.refl _ _⟩, ⟨_, rfl, LeO.refl _ _⟩, ⟨_, rfl, LeO.refl _ _⟩, ⟨_, rfl, LeO.refl _ _⟩, trivial⟩ ⟨rfl, rfl, rfl, rfl, trivial⟩ ⟨⟨by decide, rfl⟩, ⟨by decide, ClO.cells (by (repeat' (first | with_reducible assumption | exact ClL.nil | exact Cl.int _ _ | exact Cl.bool _ | exact Cl.bl _ | exact Cl.bs _ | exact Cl.str _ | exact Cl.nils | exact Cl.nilp | exact Cl.rec _ | exact Cl.bat _ | exact Cl.recsV _ | exact Cl.strsV _ | exact Cl.intsV _ | exact Cl.req _ | exact Cl.rsp _ | exact Cl.reqA _ | exact Cl.rspA _ | exact Cl.batsV _ | exact Cl.prsV _ | exact Cl.atsV _ | exact Cl.entA _ _ | exact Cl.foundA _ | exact Cl.getB _ | exact Cl.encA _ | exact Cl.firstA _ | refine ClL.cons ?_ ?_ | refine Cl.tup ?_ | refine Cl.agg ?_ | exact ClO.RO _ _))) _⟩, ⟨by decide, rfl⟩, ⟨by decide, rfl⟩, ⟨by decide, rfl⟩, ⟨by decide, rfl⟩, ⟨by decide, rfl⟩, trivial⟩
  rintro ⟨at_, last, lst, most, l, s, hat, hlst, hm, hh⟩
  dsimp only
  have hll : 50 * l.length ≤ p.length := by
    have := bldP_len p every
    rw [hh, List.length_append] at this
    omega
  conv => arg 4; whnf
  refine ⟨fun hlt => ?_, fun hlt => ?_⟩
  · have hlt : at_ < p.length := by rw [u8s_length] at hlt; simp at hlt; omega
    (conv => arg 4; whnf); repeat (refine ⟨rfl, ?_⟩; conv => arg 4; whnf)
    (repeat (refine ⟨by first | (rw [u8s_length]; omega) | (simp only [u8s_length]; omega) | omega | decide, ?_⟩; conv => arg 4; whnf))
    refine holds_args (args' := [bs (p.drop at_)]) ⟨Le.of_eq (congrArg (AV.sl .none 0) (by rw [Int.toNat_natCast, u8s_drop])), trivial⟩ ?_
    refine call0 (batFirst' (p := p.drop at_) (by simp; omega)) (by (repeat' (first | with_reducible assumption | exact ClL.nil | exact Cl.int _ _ | exact Cl.bool _ | exact Cl.bl _ | exact Cl.bs _ | exact Cl.str _ | exact Cl.nils | exact Cl.nilp | exact Cl.rec _ | exact Cl.bat _ | exact Cl.recsV _ | exact Cl.strsV _ | exact Cl.intsV _ | exact Cl.req _ | exact Cl.rsp _ | exact Cl.reqA _ | exact Cl.rspA _ | exact Cl.batsV _ | exact Cl.prsV _ | exact Cl.atsV _ | exact Cl.entA _ _ | exact Cl.foundA _ | exact Cl.getB _ | exact Cl.encA _ | exact Cl.firstA _ | refine ClL.cons ?_ ?_ | refine Cl.tup ?_ | refine Cl.agg ?_ | exact ClO.RO _ _))) (Cl.firstA _) ?_
    (conv => arg 4; whnf); repeat (refine ⟨rfl, ?_⟩; conv => arg 4; whnf)
    refine ⟨fun hb => ?_, fun hb => ?_⟩
    · simp only [Bool.cond_true_left, Bool.cond_false_right, Bool.or_eq_true, Bool.and_eq_true, Bool.not_eq_true', decide_eq_true_eq, beq_iff_eq, bne_iff_ne, u8s_length, Bool.not_eq_true, gt_iff_lt, ge_iff_le] at hb
      have hno : allP p at_ last = [] := allP_no (by omega)
      rw [hno, bld, List.append_nil] at hh
      (conv => arg 4; whnf); repeat (refine ⟨rfl, ?_⟩; conv => arg 4; whnf)
      refine fin_exit ?_
      show holds _ _ _ _
      conv => arg 4; whnf
      refine ret_in ?_
      show holds _ _ _ _
      conv => arg 4; whnf
      rw [hh]
      exact ⟨by decide, by (repeat' (first | with_reducible exact Le.refl _ _ | exact Le.bl | exact Le.lb | exact Le.nils | exact Le.nilsFull | exact Le.none | exact LeL.nil _ | refine LeL.cons ?_ ?_ | refine Le.tup ?_ | refine Le.agg ?_ | exact Le.refl _ _ | exact LeL.refl _ _)), trivial, (by (repeat' (first | with_reducible assumption | exact ClL.nil | exact Cl.int _ _ | exact Cl.bool _ | exact Cl.bl _ | exact Cl.bs _ | exact Cl.str _ | exact Cl.nils | exact Cl.nilp | exact Cl.rec _ | exact Cl.bat _ | exact Cl.recsV _ | exact Cl.strsV _ | exact Cl.intsV _ | exact Cl.req _ | exact Cl.rsp _ | exact Cl.reqA _ | exact Cl.rspA _ | exact Cl.batsV _ | exact Cl.prsV _ | exact Cl.atsV _ | exact Cl.entA _ _ | exact Cl.foundA _ | exact Cl.getB _ | exact Cl.encA _ | exact Cl.firstA _ | refine ClL.cons ?_ ?_ | refine Cl.tup ?_ | refine Cl.agg ?_ | exact ClO.RO _ _)) : Cl _) _, trivial⟩
    · rw [← Bool.not_eq_true] at hb; simp only [Bool.cond_true_left, Bool.cond_false_right, Bool.or_eq_true, Bool.and_eq_true, Bool.not_eq_true', decide_eq_true_eq, beq_iff_eq, bne_iff_ne, u8s_length, gt_iff_lt, ge_iff_le] at hb
      have hyes := allP_yes (p := p) (a := at_) (last := last) (by omega) (by omega)
      have hf := first_len (q := p.drop at_) (by omega)
      have hfl := hf.2.1
      rw [List.length_drop] at hfl
      have hbm := most_le (first_yes (p := p.drop at_) (by omega)).1.1
      have hw : IntKind.i64.wrap ((at_ : Int) + (firstN (p.drop at_) : Int)) = ((at_ + firstN (p.drop at_) : Nat) : Int) := by
        rw [IntKind.wrap_i64]; omega
      have hd : IntKind.i64.wrap ((at_ : Int) - (lst : Int)) = (at_ : Int) - lst := by
        rw [IntKind.wrap_i64]; omega
      (conv => arg 4; whnf); repeat (refine ⟨rfl, ?_⟩; conv => arg 4; whnf)
      refine round_in ?_
      conv => arg 4; whnf
      refine ⟨fun hc => ?_, fun hc => ?_⟩
      · have hc : max every 1 ≤ (at_ : Int) - lst := by rw [hd, maxE] at hc; simpa using hc
        (conv => arg 4; whnf); repeat (refine ⟨rfl, ?_⟩; conv => arg 4; whnf)
        refine ⟨⟨rfl, sizeOk 16 rfl (by rw [List.length_append, prs_length, List.length_map]; simp only [List.length_cons, List.length_nil]; omega)⟩, ?_⟩
        (conv => arg 4; whnf); repeat (refine ⟨rfl, ?_⟩; conv => arg 4; whnf)
        refine call0 (batTimes (b := firstB (p.drop at_)) (by have := first_few (p.drop at_); omega)) (by (repeat' (first | with_reducible assumption | exact ClL.nil | exact Cl.int _ _ | exact Cl.bool _ | exact Cl.bl _ | exact Cl.bs _ | exact Cl.str _ | exact Cl.nils | exact Cl.nilp | exact Cl.rec _ | exact Cl.bat _ | exact Cl.recsV _ | exact Cl.strsV _ | exact Cl.intsV _ | exact Cl.req _ | exact Cl.rsp _ | exact Cl.reqA _ | exact Cl.rspA _ | exact Cl.batsV _ | exact Cl.prsV _ | exact Cl.atsV _ | exact Cl.entA _ _ | exact Cl.foundA _ | exact Cl.getB _ | exact Cl.encA _ | exact Cl.firstA _ | refine ClL.cons ?_ ?_ | refine Cl.tup ?_ | refine Cl.agg ?_ | exact ClO.RO _ _))) (by (repeat' (first | with_reducible assumption | exact ClL.nil | exact Cl.int _ _ | exact Cl.bool _ | exact Cl.bl _ | exact Cl.bs _ | exact Cl.str _ | exact Cl.nils | exact Cl.nilp | exact Cl.rec _ | exact Cl.bat _ | exact Cl.recsV _ | exact Cl.strsV _ | exact Cl.intsV _ | exact Cl.req _ | exact Cl.rsp _ | exact Cl.reqA _ | exact Cl.rspA _ | exact Cl.batsV _ | exact Cl.prsV _ | exact Cl.atsV _ | exact Cl.entA _ _ | exact Cl.foundA _ | exact Cl.getB _ | exact Cl.encA _ | exact Cl.firstA _ | refine ClL.cons ?_ ?_ | refine Cl.tup ?_ | refine Cl.agg ?_ | exact ClO.RO _ _))) ?_
        (conv => arg 4; whnf); repeat (refine ⟨rfl, ?_⟩; conv => arg 4; whnf)
        refine ⟨fun h => absurd h (by first | (simp; done) | (simp [u8s]; done)), fun _ => ?_⟩
        conv => arg 4; whnf
        refine ⟨⟨at_ + firstN (p.drop at_), (firstB (p.drop at_)).last, at_, max most (firstB (p.drop at_)).most, l ++ [((at_ : Int), (firstB (p.drop at_)).base, most)], s + 1, by omega, by omega, by omega, by rw [hh, hyes, bld_yes hc]; simp⟩, by show p.length - (at_ + firstN (p.drop at_)) < p.length - at_; omega, WkG.of rfl rfl ⟨Le.refl _ _, Le.of_eq (congrArg _ hw), Le.refl _ _, Le.refl _ _, trivial⟩ ⟨⟨_, rfl, LeO.loop ⟨Le.refl _ _, Le.refl _ _, Le.refl _ _, Le.refl _ _, trivial⟩ rfl rfl rfl⟩, ⟨_, rfl, LeO.refl _ _⟩, ⟨_, rfl, LeL.cons (Le.of_eq (congrArg _ (maxG _ _))) (LeL.nil _)⟩, ⟨_, rfl, LeO.refl _ _⟩, ⟨_, rfl, LeL.cons (Le.of_eq (congrArg (AV.sl (.tok 6 (s + 1)) 2) (pr_stepT l ((at_ : Int), (firstB (p.drop at_)).base, most)))) (LeL.nil _)⟩, ⟨_, rfl, LeO.refl _ _⟩, ⟨_, rfl, LeO.refl _ _⟩, trivial⟩ ⟨rfl, rfl, rfl, rfl, trivial⟩ ⟨⟨by decide, rfl⟩, ⟨by decide, ClO.cells (by (repeat' (first | with_reducible assumption | exact ClL.nil | exact Cl.int _ _ | exact Cl.bool _ | exact Cl.bl _ | exact Cl.bs _ | exact Cl.str _ | exact Cl.nils | exact Cl.nilp | exact Cl.rec _ | exact Cl.bat _ | exact Cl.recsV _ | exact Cl.strsV _ | exact Cl.intsV _ | exact Cl.req _ | exact Cl.rsp _ | exact Cl.reqA _ | exact Cl.rspA _ | exact Cl.batsV _ | exact Cl.prsV _ | exact Cl.atsV _ | exact Cl.entA _ _ | exact Cl.foundA _ | exact Cl.getB _ | exact Cl.encA _ | exact Cl.firstA _ | refine ClL.cons ?_ ?_ | refine Cl.tup ?_ | refine Cl.agg ?_ | exact ClO.RO _ _))) _⟩, ⟨by decide, rfl⟩, ⟨by decide, rfl⟩, ⟨by decide, ob_cut (ClL.prs _) rfl⟩, ⟨by decide, rfl⟩, ⟨by decide, rfl⟩, trivial⟩⟩
      · have hc : ¬ max every 1 ≤ (at_ : Int) - lst := by rw [hd, maxE] at hc; simpa using hc
        (conv => arg 4; whnf); repeat (refine ⟨rfl, ?_⟩; conv => arg 4; whnf)
        refine call0 (batTimes (b := firstB (p.drop at_)) (by have := first_few (p.drop at_); omega)) (by (repeat' (first | with_reducible assumption | exact ClL.nil | exact Cl.int _ _ | exact Cl.bool _ | exact Cl.bl _ | exact Cl.bs _ | exact Cl.str _ | exact Cl.nils | exact Cl.nilp | exact Cl.rec _ | exact Cl.bat _ | exact Cl.recsV _ | exact Cl.strsV _ | exact Cl.intsV _ | exact Cl.req _ | exact Cl.rsp _ | exact Cl.reqA _ | exact Cl.rspA _ | exact Cl.batsV _ | exact Cl.prsV _ | exact Cl.atsV _ | exact Cl.entA _ _ | exact Cl.foundA _ | exact Cl.getB _ | exact Cl.encA _ | exact Cl.firstA _ | refine ClL.cons ?_ ?_ | refine Cl.tup ?_ | refine Cl.agg ?_ | exact ClO.RO _ _))) (by (repeat' (first | with_reducible assumption | exact ClL.nil | exact Cl.int _ _ | exact Cl.bool _ | exact Cl.bl _ | exact Cl.bs _ | exact Cl.str _ | exact Cl.nils | exact Cl.nilp | exact Cl.rec _ | exact Cl.bat _ | exact Cl.recsV _ | exact Cl.strsV _ | exact Cl.intsV _ | exact Cl.req _ | exact Cl.rsp _ | exact Cl.reqA _ | exact Cl.rspA _ | exact Cl.batsV _ | exact Cl.prsV _ | exact Cl.atsV _ | exact Cl.entA _ _ | exact Cl.foundA _ | exact Cl.getB _ | exact Cl.encA _ | exact Cl.firstA _ | refine ClL.cons ?_ ?_ | refine Cl.tup ?_ | refine Cl.agg ?_ | exact ClO.RO _ _))) ?_
        (conv => arg 4; whnf); repeat (refine ⟨rfl, ?_⟩; conv => arg 4; whnf)
        refine ⟨fun h => absurd h (by first | (simp; done) | (simp [u8s]; done)), fun _ => ?_⟩
        conv => arg 4; whnf
        refine ⟨⟨at_ + firstN (p.drop at_), (firstB (p.drop at_)).last, lst, max most (firstB (p.drop at_)).most, l, s, by omega, by omega, by omega, by rw [hh, hyes, bld_no hc]⟩, by show p.length - (at_ + firstN (p.drop at_)) < p.length - at_; omega, WkG.of rfl rfl ⟨Le.refl _ _, Le.of_eq (congrArg _ hw), Le.refl _ _, Le.refl _ _, trivial⟩ ⟨⟨_, rfl, LeO.loop ⟨Le.refl _ _, Le.refl _ _, Le.refl _ _, Le.refl _ _, trivial⟩ rfl rfl rfl⟩, ⟨_, rfl, LeO.refl _ _⟩, ⟨_, rfl, LeL.cons (Le.of_eq (congrArg _ (maxG _ _))) (LeL.nil _)⟩, ⟨_, rfl, LeO.refl _ _⟩, ⟨_, rfl, LeO.refl _ _⟩, ⟨_, rfl, LeO.refl _ _⟩, ⟨_, rfl, LeO.refl _ _⟩, trivial⟩ ⟨rfl, rfl, rfl, rfl, trivial⟩ ⟨⟨by decide, rfl⟩, ⟨by decide, ClO.cells (by (repeat' (first | with_reducible assumption | exact ClL.nil | exact Cl.int _ _ | exact Cl.bool _ | exact Cl.bl _ | exact Cl.bs _ | exact Cl.str _ | exact Cl.nils | exact Cl.nilp | exact Cl.rec _ | exact Cl.bat _ | exact Cl.recsV _ | exact Cl.strsV _ | exact Cl.intsV _ | exact Cl.req _ | exact Cl.rsp _ | exact Cl.reqA _ | exact Cl.rspA _ | exact Cl.batsV _ | exact Cl.prsV _ | exact Cl.atsV _ | exact Cl.entA _ _ | exact Cl.foundA _ | exact Cl.getB _ | exact Cl.encA _ | exact Cl.firstA _ | refine ClL.cons ?_ ?_ | refine Cl.tup ?_ | refine Cl.agg ?_ | exact ClO.RO _ _))) _⟩, ⟨by decide, rfl⟩, ⟨by decide, rfl⟩, ⟨by decide, ob_cut (ClL.prs _) rfl⟩, ⟨by decide, rfl⟩, ⟨by decide, rfl⟩, trivial⟩⟩
  · have hlt : at_ = p.length := by rw [u8s_length] at hlt; simp at hlt; omega
    have hno : allP p at_ last = [] := allP_end (by omega)
    rw [hno, bld, List.append_nil] at hh
    conv => arg 4; whnf
    refine fin_exit ?_
    show holds _ _ _ _
    conv => arg 4; whnf
    refine ret_in ?_
    show holds _ _ _ _
    conv => arg 4; whnf
    rw [hh]
    exact ⟨by decide, by (repeat' (first | with_reducible exact Le.refl _ _ | exact Le.bl | exact Le.lb | exact Le.nils | exact Le.nilsFull | exact Le.none | exact LeL.nil _ | refine LeL.cons ?_ ?_ | refine Le.tup ?_ | refine Le.agg ?_ | exact Le.refl _ _ | exact LeL.refl _ _)), trivial, (by (repeat' (first | with_reducible assumption | exact ClL.nil | exact Cl.int _ _ | exact Cl.bool _ | exact Cl.bl _ | exact Cl.bs _ | exact Cl.str _ | exact Cl.nils | exact Cl.nilp | exact Cl.rec _ | exact Cl.bat _ | exact Cl.recsV _ | exact Cl.strsV _ | exact Cl.intsV _ | exact Cl.req _ | exact Cl.rsp _ | exact Cl.reqA _ | exact Cl.rspA _ | exact Cl.batsV _ | exact Cl.prsV _ | exact Cl.atsV _ | exact Cl.entA _ _ | exact Cl.foundA _ | exact Cl.getB _ | exact Cl.encA _ | exact Cl.firstA _ | refine ClL.cons ?_ ?_ | refine Cl.tup ?_ | refine Cl.agg ?_ | exact ClO.RO _ _)) : Cl _) _, trivial⟩
theorem WkG.tok2 {n n' : Nat} {env env' : List (Nat × AV)} {h h' : Heap} {nx : Nat} {sz : Sz} (hn : Nat.ble n nx = true) (hn' : Nat.ble n n' = true) (he : EnvLe ((nx + 1, .tip 0) :: (nx, .tip 0) :: h) env env') (hh : HeapLe ((nx + 1, .tip 0) :: (nx, .tip 0) :: h) h') (hc : EnvCut n' (nx + 1 + 1) env') (hd : HeapCut n' (nx + 1 + 1) h') : WkG n ⟨env, h, nx, sz⟩ ⟨env', h', n', sz⟩ :=
  ⟨Nat.le_of_ble_eq_true hn, rfl, (Gh.token n _ _ _).trans ((Gh.token n _ _ _).trans ((Gh.le he.le hh.le).trans (Gh.drop (Nat.le_of_ble_eq_true hn') hc.look hd.get)))⟩

structure RbI (p : List UInt8) (every : Int) where
  i : Nat
  a : Nat
  last : Int
  lst : Nat
  most : Int
  l : List (Int × Int × Int)
  s : Nat
  hi : i ≤ (allP p 0 (-1)).length
  ha : a ≤ 65536 * i
  hlst : lst ≤ a
  hm : 0 ≤ most ∧ most ≤ 1125899906842624
  hr : RisesP ((allP p 0 (-1)).drop i) a last
  h : bldP p every = l ++ bld (max every 1) lst most ((allP p 0 (-1)).drop i)

theorem refBuild {p : List UInt8} {every : Int} (hl : p.length ≤ 100000000) : CallOK Try.prog 68 [bs p, .int .i64 every] [] 0 (Out (.tup [prsV ((bldP p every).map eO), prsV ((bldP p every).map eT)]) [] 0) := by
  refine CallOK.fit (by decide) ?_
  refine callOK Try.call68 Try.func68 Try.ntmps68 rfl ?_
  conv => arg 4; whnf
  refine call0 (refAll hl) (by (repeat' (first | with_reducible assumption | exact ClL.nil | exact Cl.int _ _ | exact Cl.bool _ | exact Cl.bl _ | exact Cl.bs _ | exact Cl.str _ | exact Cl.nils | exact Cl.nilp | exact Cl.rec _ | exact Cl.bat _ | exact Cl.recsV _ | exact Cl.strsV _ | exact Cl.intsV _ | exact Cl.req _ | exact Cl.rsp _ | exact Cl.reqA _ | exact Cl.rspA _ | exact Cl.batsV _ | exact Cl.prsV _ | exact Cl.atsV _ | exact Cl.entA _ _ | exact Cl.foundA _ | exact Cl.getB _ | exact Cl.encA _ | exact Cl.firstA _ | refine ClL.cons ?_ ?_ | refine Cl.tup ?_ | refine Cl.agg ?_ | exact ClO.RO _ _))) (Cl.atsV _) ?_
  conv => arg 4; whnf
  refine tri_loopG (ι := RbI p every) (fun a => ⟨[(11, .int .i64 a.i), (10, .int .i64 a.most), (9, .int .i64 ((a.a : Int) - a.lst)), (8, .sl (.tok 1 a.s) 2 (prsL (a.l.map eT))), (7, .sl (.tok 0 a.s) 2 (prsL (a.l.map eO))), (6, atsV (allP p 0 (-1))), (1, .int .i64 (if 1 > every then 1 else every))], [(1, .tip a.s), (0, .tip a.s)], 2, 75⟩) (fun a => (allP p 0 (-1)).length - a.i) ⟨0, 0, -1, 0, 0, [], 0, Nat.zero_le _, Nat.zero_le _, Nat.zero_le _, by decide, allP_rises p 0 (-1), rfl⟩ (WkG.tok2 rfl rfl ⟨Le.refl _ _, Le.refl _ _, Le.refl _ _, Le.nilsTok rfl, Le.nilsTok rfl, Le.refl _ _, Le.refl _ _, trivial⟩ ⟨⟨_, rfl, rfl⟩, ⟨_, rfl, rfl⟩, trivial⟩ ⟨rfl, rfl, rfl, rfl, rfl, Cl.atsV _ _, rfl, trivial⟩ ⟨⟨by decide, rfl⟩, ⟨by decide, rfl⟩, trivial⟩) ?_
  rintro ⟨i, a0, last, lst, most, l, s, hi, ha, hlst, hm, hr, hh⟩
  dsimp only
  have hll : 50 * l.length ≤ p.length := by
    have := bldP_len p every
    rw [hh, List.length_append] at this
    omega
  have hal := allP_len p 0 (-1)
  conv => arg 4; whnf
  refine ⟨fun h => ?_, fun h => ?_⟩
  · have h : i < (allP p 0 (-1)).length := by rw [ats_length] at h; simp at h; omega
    obtain ⟨x, hx⟩ : ∃ x, (allP p 0 (-1))[i]? = some x := ⟨_, List.getElem?_eq_getElem h⟩
    have hdr : (allP p 0 (-1)).drop i = x :: (allP p 0 (-1)).drop (i + 1) := by
      rw [List.drop_eq_getElem_cons h]
      simp [List.getElem?_eq_getElem h] at hx
      rw [hx]
    obtain ⟨xa, b⟩ := x
    rw [hdr] at hr hh
    obtain ⟨rfl, hc, hlb, hr⟩ := hr
    have hbn := chk_nums hc
    have hbl := (chk_fine hc).2.1
    have hbm := most_le hc
    (conv => arg 4; whnf); repeat (refine ⟨rfl, ?_⟩; conv => arg 4; whnf)
    refine ⟨fun hq => ?_, fun hq => ?_⟩
    · have hq : max every 1 ≤ (xa : Int) - lst := by rw [maxE] at hq; simpa using hq
      (conv => arg 4; whnf); repeat (refine ⟨rfl, ?_⟩; conv => arg 4; whnf)
      refine ⟨_, ⟨by omega, ats_get hx⟩, ?_⟩
      (conv => arg 4; whnf); repeat (refine ⟨rfl, ?_⟩; conv => arg 4; whnf)
      refine ⟨_, ⟨by omega, ats_get hx⟩, ?_⟩
      (conv => arg 4; whnf); repeat (refine ⟨rfl, ?_⟩; conv => arg 4; whnf)
      refine ⟨⟨rfl, sizeOk 16 rfl (by rw [List.length_append, prs_length, List.length_map]; simp only [List.length_cons, List.length_nil]; omega)⟩, ?_⟩
      (conv => arg 4; whnf); repeat (refine ⟨rfl, ?_⟩; conv => arg 4; whnf)
      refine ⟨_, ⟨by omega, ats_get hx⟩, ?_⟩
      (conv => arg 4; whnf); repeat (refine ⟨rfl, ?_⟩; conv => arg 4; whnf)
      refine ⟨⟨rfl, sizeOk 16 rfl (by rw [List.length_append, prs_length, List.length_map]; simp only [List.length_cons, List.length_nil]; omega)⟩, ?_⟩
      (conv => arg 4; whnf); repeat (refine ⟨rfl, ?_⟩; conv => arg 4; whnf)
      refine ⟨_, ⟨by omega, ats_get hx⟩, ?_⟩
      (conv => arg 4; whnf); repeat (refine ⟨rfl, ?_⟩; conv => arg 4; whnf)
      refine call0 (refSize (b := b) (by omega)) (by (repeat' (first | with_reducible assumption | exact ClL.nil | exact Cl.int _ _ | exact Cl.bool _ | exact Cl.bl _ | exact Cl.bs _ | exact Cl.str _ | exact Cl.nils | exact Cl.nilp | exact Cl.rec _ | exact Cl.bat _ | exact Cl.recsV _ | exact Cl.strsV _ | exact Cl.intsV _ | exact Cl.req _ | exact Cl.rsp _ | exact Cl.reqA _ | exact Cl.rspA _ | exact Cl.batsV _ | exact Cl.prsV _ | exact Cl.atsV _ | exact Cl.entA _ _ | exact Cl.foundA _ | exact Cl.getB _ | exact Cl.encA _ | exact Cl.firstA _ | refine ClL.cons ?_ ?_ | refine Cl.tup ?_ | refine Cl.agg ?_ | exact ClO.RO _ _))) (by (repeat' (first | with_reducible assumption | exact ClL.nil | exact Cl.int _ _ | exact Cl.bool _ | exact Cl.bl _ | exact Cl.bs _ | exact Cl.str _ | exact Cl.nils | exact Cl.nilp | exact Cl.rec _ | exact Cl.bat _ | exact Cl.recsV _ | exact Cl.strsV _ | exact Cl.intsV _ | exact Cl.req _ | exact Cl.rsp _ | exact Cl.reqA _ | exact Cl.rspA _ | exact Cl.batsV _ | exact Cl.prsV _ | exact Cl.atsV _ | exact Cl.entA _ _ | exact Cl.foundA _ | exact Cl.getB _ | exact Cl.encA _ | exact Cl.firstA _ | refine ClL.cons ?_ ?_ | refine Cl.tup ?_ | refine Cl.agg ?_ | exact ClO.RO _ _))) ?_
      (conv => arg 4; whnf); repeat (refine ⟨rfl, ?_⟩; conv => arg 4; whnf)
      refine ⟨_, ⟨by omega, ats_get hx⟩, ?_⟩
      (conv => arg 4; whnf); repeat (refine ⟨rfl, ?_⟩; conv => arg 4; whnf)
      refine call0 (refTimes (b := b) (by omega)) (by (repeat' (first | with_reducible assumption | exact ClL.nil | exact Cl.int _ _ | exact Cl.bool _ | exact Cl.bl _ | exact Cl.bs _ | exact Cl.str _ | exact Cl.nils | exact Cl.nilp | exact Cl.rec _ | exact Cl.bat _ | exact Cl.recsV _ | exact Cl.strsV _ | exact Cl.intsV _ | exact Cl.req _ | exact Cl.rsp _ | exact Cl.reqA _ | exact Cl.rspA _ | exact Cl.batsV _ | exact Cl.prsV _ | exact Cl.atsV _ | exact Cl.entA _ _ | exact Cl.foundA _ | exact Cl.getB _ | exact Cl.encA _ | exact Cl.firstA _ | refine ClL.cons ?_ ?_ | refine Cl.tup ?_ | refine Cl.agg ?_ | exact ClO.RO _ _))) (by (repeat' (first | with_reducible assumption | exact ClL.nil | exact Cl.int _ _ | exact Cl.bool _ | exact Cl.bl _ | exact Cl.bs _ | exact Cl.str _ | exact Cl.nils | exact Cl.nilp | exact Cl.rec _ | exact Cl.bat _ | exact Cl.recsV _ | exact Cl.strsV _ | exact Cl.intsV _ | exact Cl.req _ | exact Cl.rsp _ | exact Cl.reqA _ | exact Cl.rspA _ | exact Cl.batsV _ | exact Cl.prsV _ | exact Cl.atsV _ | exact Cl.entA _ _ | exact Cl.foundA _ | exact Cl.getB _ | exact Cl.encA _ | exact Cl.firstA _ | refine ClL.cons ?_ ?_ | refine Cl.tup ?_ | refine Cl.agg ?_ | exact ClO.RO _ _))) ?_
      (conv => arg 4; whnf); repeat (refine ⟨rfl, ?_⟩; conv => arg 4; whnf)
      have hw : IntKind.i64.wrap (0 + (b.out.length : Int)) = ((xa + b.enc.length : Nat) : Int) - (xa : Nat) := by
        rw [out_yes hc, IntKind.wrap_i64]; omega
      exact ⟨⟨i + 1, xa + b.enc.length, b.last, xa, max most b.most, l ++ [((xa : Int), b.base, most)], s + 1, by omega, by omega, by omega, by omega, hr, by rw [hh, bld_yes hq]; simp⟩, by show (allP p 0 (-1)).length - (i + 1) < (allP p 0 (-1)).length - i; omega, WkG.of rfl rfl ⟨Le.of_eq (succ_i64 (by omega)), Le.of_eq (congrArg _ (maxG _ _)), Le.of_eq (congrArg _ hw), Le.of_eq (congrArg (AV.sl (.tok 1 (s + 1)) 2) (pr_stepT l ((xa : Int), b.base, most))), Le.of_eq (congrArg (AV.sl (.tok 0 (s + 1)) 2) (pr_step l ((xa : Int), b.base, most))), Le.refl _ _, Le.refl _ _, trivial⟩ ⟨⟨_, rfl, LeO.refl _ _⟩, ⟨_, rfl, LeO.refl _ _⟩, trivial⟩ ⟨rfl, rfl, rfl, cut_sl (ClL.prs _) rfl, cut_sl (ClL.prs _) rfl, Cl.atsV _ _, rfl, trivial⟩ ⟨⟨by decide, rfl⟩, ⟨by decide, rfl⟩, trivial⟩⟩
    · have hq : ¬ max every 1 ≤ (xa : Int) - lst := by rw [maxE] at hq; simpa using hq
      (conv => arg 4; whnf); repeat (refine ⟨rfl, ?_⟩; conv => arg 4; whnf)
      refine ⟨_, ⟨by omega, ats_get hx⟩, ?_⟩
      (conv => arg 4; whnf); repeat (refine ⟨rfl, ?_⟩; conv => arg 4; whnf)
      refine call0 (refSize (b := b) (by omega)) (by (repeat' (first | with_reducible assumption | exact ClL.nil | exact Cl.int _ _ | exact Cl.bool _ | exact Cl.bl _ | exact Cl.bs _ | exact Cl.str _ | exact Cl.nils | exact Cl.nilp | exact Cl.rec _ | exact Cl.bat _ | exact Cl.recsV _ | exact Cl.strsV _ | exact Cl.intsV _ | exact Cl.req _ | exact Cl.rsp _ | exact Cl.reqA _ | exact Cl.rspA _ | exact Cl.batsV _ | exact Cl.prsV _ | exact Cl.atsV _ | exact Cl.entA _ _ | exact Cl.foundA _ | exact Cl.getB _ | exact Cl.encA _ | exact Cl.firstA _ | refine ClL.cons ?_ ?_ | refine Cl.tup ?_ | refine Cl.agg ?_ | exact ClO.RO _ _))) (by (repeat' (first | with_reducible assumption | exact ClL.nil | exact Cl.int _ _ | exact Cl.bool _ | exact Cl.bl _ | exact Cl.bs _ | exact Cl.str _ | exact Cl.nils | exact Cl.nilp | exact Cl.rec _ | exact Cl.bat _ | exact Cl.recsV _ | exact Cl.strsV _ | exact Cl.intsV _ | exact Cl.req _ | exact Cl.rsp _ | exact Cl.reqA _ | exact Cl.rspA _ | exact Cl.batsV _ | exact Cl.prsV _ | exact Cl.atsV _ | exact Cl.entA _ _ | exact Cl.foundA _ | exact Cl.getB _ | exact Cl.encA _ | exact Cl.firstA _ | refine ClL.cons ?_ ?_ | refine Cl.tup ?_ | refine Cl.agg ?_ | exact ClO.RO _ _))) ?_
      (conv => arg 4; whnf); repeat (refine ⟨rfl, ?_⟩; conv => arg 4; whnf)
      refine ⟨_, ⟨by omega, ats_get hx⟩, ?_⟩
      (conv => arg 4; whnf); repeat (refine ⟨rfl, ?_⟩; conv => arg 4; whnf)
      refine call0 (refTimes (b := b) (by omega)) (by (repeat' (first | with_reducible assumption | exact ClL.nil | exact Cl.int _ _ | exact Cl.bool _ | exact Cl.bl _ | exact Cl.bs _ | exact Cl.str _ | exact Cl.nils | exact Cl.nilp | exact Cl.rec _ | exact Cl.bat _ | exact Cl.recsV _ | exact Cl.strsV _ | exact Cl.intsV _ | exact Cl.req _ | exact Cl.rsp _ | exact Cl.reqA _ | exact Cl.rspA _ | exact Cl.batsV _ | exact Cl.prsV _ | exact Cl.atsV _ | exact Cl.entA _ _ | exact Cl.foundA _ | exact Cl.getB _ | exact Cl.encA _ | exact Cl.firstA _ | refine ClL.cons ?_ ?_ | refine Cl.tup ?_ | refine Cl.agg ?_ | exact ClO.RO _ _))) (by (repeat' (first | with_reducible assumption | exact ClL.nil | exact Cl.int _ _ | exact Cl.bool _ | exact Cl.bl _ | exact Cl.bs _ | exact Cl.str _ | exact Cl.nils | exact Cl.nilp | exact Cl.rec _ | exact Cl.bat _ | exact Cl.recsV _ | exact Cl.strsV _ | exact Cl.intsV _ | exact Cl.req _ | exact Cl.rsp _ | exact Cl.reqA _ | exact Cl.rspA _ | exact Cl.batsV _ | exact Cl.prsV _ | exact Cl.atsV _ | exact Cl.entA _ _ | exact Cl.foundA _ | exact Cl.getB _ | exact Cl.encA _ | exact Cl.firstA _ | refine ClL.cons ?_ ?_ | refine Cl.tup ?_ | refine Cl.agg ?_ | exact ClO.RO _ _))) ?_
      (conv => arg 4; whnf); repeat (refine ⟨rfl, ?_⟩; conv => arg 4; whnf)
      have hw : IntKind.i64.wrap (((xa : Int) - (lst : Int)) + (b.out.length : Int)) = ((xa + b.enc.length : Nat) : Int) - (lst : Nat) := by
        rw [out_yes hc, IntKind.wrap_i64]; omega
      exact ⟨⟨i + 1, xa + b.enc.length, b.last, lst, max most b.most, l, s, by omega, by omega, by omega, by omega, hr, by rw [hh, bld_no hq]⟩, by show (allP p 0 (-1)).length - (i + 1) < (allP p 0 (-1)).length - i; omega, WkG.of rfl rfl ⟨Le.of_eq (succ_i64 (by omega)), Le.of_eq (congrArg _ (maxG _ _)), Le.of_eq (congrArg _ hw), Le.refl _ _, Le.refl _ _, Le.refl _ _, Le.refl _ _, trivial⟩ ⟨⟨_, rfl, LeO.refl _ _⟩, ⟨_, rfl, LeO.refl _ _⟩, trivial⟩ ⟨rfl, rfl, rfl, cut_sl (ClL.prs _) rfl, cut_sl (ClL.prs _) rfl, Cl.atsV _ _, rfl, trivial⟩ ⟨⟨by decide, rfl⟩, ⟨by decide, rfl⟩, trivial⟩⟩
  · have h : i = (allP p 0 (-1)).length := by rw [ats_length] at h; simp at h; omega
    rw [h, List.drop_length, bld, List.append_nil] at hh
    (conv => arg 4; whnf); repeat (refine ⟨rfl, ?_⟩; conv => arg 4; whnf)
    refine fin_exit ?_
    show holds _ _ _ _
    conv => arg 4; whnf
    rw [hh]
    exact ⟨by decide, by (repeat' (first | with_reducible exact Le.refl _ _ | exact Le.bl | exact Le.lb | exact Le.nils | exact Le.nilsFull | exact Le.none | exact LeL.nil _ | refine LeL.cons ?_ ?_ | refine Le.tup ?_ | refine Le.agg ?_ | exact Le.refl _ _ | exact LeL.refl _ _)), trivial, (by (repeat' (first | with_reducible assumption | exact ClL.nil | exact Cl.int _ _ | exact Cl.bool _ | exact Cl.bl _ | exact Cl.bs _ | exact Cl.str _ | exact Cl.nils | exact Cl.nilp | exact Cl.rec _ | exact Cl.bat _ | exact Cl.recsV _ | exact Cl.strsV _ | exact Cl.intsV _ | exact Cl.req _ | exact Cl.rsp _ | exact Cl.reqA _ | exact Cl.rspA _ | exact Cl.batsV _ | exact Cl.prsV _ | exact Cl.atsV _ | exact Cl.entA _ _ | exact Cl.foundA _ | exact Cl.getB _ | exact Cl.encA _ | exact Cl.firstA _ | refine ClL.cons ?_ ?_ | refine Cl.tup ?_ | refine Cl.agg ?_ | exact ClO.RO _ _)) : Cl _) _, trivial⟩

end Go.Proofs.Ytejocegoockacaa.Ix

namespace Go.Proofs.Ytejocegoockacaa.Ix
set_option maxRecDepth 100000
set_option maxHeartbeats 80000000
open Go.Sym

structure BgI (p : List UInt8) (pos : Int) where
  at_ : Nat
  last : Int
  hat : at_ ≤ p.length
  h : begs (allP p 0 (-1)) pos = begs (allP p at_ last) pos

theorem begs_cons (x : Nat × Bat) (l : List (Nat × Bat)) (pos : Int) : begs (x :: l) pos = (decide ((x.1 : Int) = pos) || begs l pos) := rfl

theorem ixBegins {p : List UInt8} {pos : Int} (hl : p.length ≤ 100000000) : CallOK Try.prog 102 [bs p, .int .i64 pos] [] 0 (Out (.bool (begs (allP p 0 (-1)) pos)) [] 0) := by
  refine CallOK.fit (by decide) ?_
  refine callOK Try.call102 Try.func102 Try.ntmps102 rfl ?_
  conv => arg 4; whnf
  refine holds_out [] (batAll (p := p)) rfl trivial (ClL.cons (Cl.bs p) ClL.nil _).symm ?_
  conv => arg 4; whnf
  simp only [renL_u8s]
  refine callOK Try.call115 Try.func115 Try.ntmps115 rfl ?_
  conv => arg 4; whnf
  refine tri_loopG (ι := BgI p pos) (fun a => ⟨[(4, .int .i64 a.last), (3, .int .i64 a.at_), (0, .yld 3), (1, .ptr 2 0)], [(3, loopOf Try.f102 0 [(4, .ptr 1 0), (3, .ptr 0 0)] 13 .ready), (2, .cells [bs p]), (1, .cells [.bl false]), (0, .cells [.int .i64 pos])], 4, 40⟩) (fun a => p.length - a.at_) ⟨0, -1, Nat.zero_le _, rfl⟩ ?_ ?_
  · exact WkG.of rfl rfl ⟨Le.refl _ _, Le.refl _ _, Le.refl _ _, Le.refl _ _, trivial⟩ ⟨⟨_, rfl, LeO.loop ⟨Le.refl _ _, Le.refl _ _, trivial⟩ rfl rfl rfl⟩, ⟨_, rfl, LeO.refl _ _⟩, ⟨_, rfl, LeO.refl _ _⟩, ⟨_, rfl, LeO.refl _ _⟩, trivial⟩ ⟨rfl, rfl, rfl, rfl, trivial⟩ ⟨⟨by decide, rfl⟩, ⟨by decide, ClO.cells (by (repeat' (first | with_reducible assumption | exact ClL.nil | exact Cl.int _ _ | exact Cl.bool _ | exact Cl.bl _ | exact Cl.bs _ | exact Cl.str _ | exact Cl.nils | exact Cl.nilp | exact Cl.rec _ | exact Cl.bat _ | exact Cl.recsV _ | exact Cl.strsV _ | exact Cl.intsV _ | exact Cl.req _ | exact Cl.rsp _ | exact Cl.reqA _ | exact Cl.rspA _ | exact Cl.batsV _ | exact Cl.prsV _ | exact Cl.atsV _ | exact Cl.entA _ _ | exact Cl.foundA _ | exact Cl.getB _ | exact Cl.encA _ | exact Cl.firstA _ | refine ClL.cons ?_ ?_ | refine Cl.tup ?_ | refine Cl.agg ?_ | exact ClO.RO _ _))) _⟩, ⟨by decide, rfl⟩, ⟨by decide, rfl⟩, trivial⟩
  rintro ⟨at_, last, hat, hh⟩
  dsimp only
  conv => arg 4; whnf
  refine ⟨fun hlt => ?_, fun hlt => ?_⟩
  · have hlt : at_ < p.length := by rw [u8s_length] at hlt; simp at hlt; omega
    (conv => arg 4; whnf); repeat (refine ⟨rfl, ?_⟩; conv => arg 4; whnf)
    (repeat (refine ⟨by first | (rw [u8s_length]; omega) | (simp only [u8s_length]; omega) | omega | decide, ?_⟩; conv => arg 4; whnf))
    refine holds_args (args' := [bs (p.drop at_)]) ⟨Le.of_eq (congrArg (AV.sl .none 0) (by rw [Int.toNat_natCast, u8s_drop])), trivial⟩ ?_
    refine call0 (batFirst' (p := p.drop at_) (by simp; omega)) (by (repeat' (first | with_reducible assumption | exact ClL.nil | exact Cl.int _ _ | exact Cl.bool _ | exact Cl.bl _ | exact Cl.bs _ | exact Cl.str _ | exact Cl.nils | exact Cl.nilp | exact Cl.rec _ | exact Cl.bat _ | exact Cl.recsV _ | exact Cl.strsV _ | exact Cl.intsV _ | exact Cl.req _ | exact Cl.rsp _ | exact Cl.reqA _ | exact Cl.rspA _ | exact Cl.batsV _ | exact Cl.prsV _ | exact Cl.atsV _ | exact Cl.entA _ _ | exact Cl.foundA _ | exact Cl.getB _ | exact Cl.encA _ | exact Cl.firstA _ | refine ClL.cons ?_ ?_ | refine Cl.tup ?_ | refine Cl.agg ?_ | exact ClO.RO _ _))) (Cl.firstA _) ?_
    (conv => arg 4; whnf); repeat (refine ⟨rfl, ?_⟩; conv => arg 4; whnf)
    refine ⟨fun hb => ?_, fun hb => ?_⟩
    · simp only [Bool.cond_true_left, Bool.cond_false_right, Bool.or_eq_true, Bool.and_eq_true, Bool.not_eq_true', decide_eq_true_eq, beq_iff_eq, bne_iff_ne, u8s_length, Bool.not_eq_true, gt_iff_lt, ge_iff_le] at hb
      have hno : allP p at_ last = [] := allP_no (by omega)
      rw [hno] at hh
      (conv => arg 4; whnf); repeat (refine ⟨rfl, ?_⟩; conv => arg 4; whnf)
      refine fin_exit ?_
      show holds _ _ _ _
      conv => arg 4; whnf
      refine ret_in ?_
      show holds _ _ _ _
      conv => arg 4; whnf
      rw [hh]
      exact ⟨by decide, by (repeat' (first | with_reducible exact Le.refl _ _ | exact Le.bl | exact Le.lb | exact Le.nils | exact Le.nilsFull | exact Le.none | exact LeL.nil _ | refine LeL.cons ?_ ?_ | refine Le.tup ?_ | refine Le.agg ?_ | exact Le.refl _ _ | exact LeL.refl _ _)), trivial, (by (repeat' (first | with_reducible assumption | exact ClL.nil | exact Cl.int _ _ | exact Cl.bool _ | exact Cl.bl _ | exact Cl.bs _ | exact Cl.str _ | exact Cl.nils | exact Cl.nilp | exact Cl.rec _ | exact Cl.bat _ | exact Cl.recsV _ | exact Cl.strsV _ | exact Cl.intsV _ | exact Cl.req _ | exact Cl.rsp _ | exact Cl.reqA _ | exact Cl.rspA _ | exact Cl.batsV _ | exact Cl.prsV _ | exact Cl.atsV _ | exact Cl.entA _ _ | exact Cl.foundA _ | exact Cl.getB _ | exact Cl.encA _ | exact Cl.firstA _ | refine ClL.cons ?_ ?_ | refine Cl.tup ?_ | refine Cl.agg ?_ | exact ClO.RO _ _)) : Cl _) _, trivial⟩
    · rw [← Bool.not_eq_true] at hb; simp only [Bool.cond_true_left, Bool.cond_false_right, Bool.or_eq_true, Bool.and_eq_true, Bool.not_eq_true', decide_eq_true_eq, beq_iff_eq, bne_iff_ne, u8s_length, gt_iff_lt, ge_iff_le] at hb
      have hyes := allP_yes (p := p) (a := at_) (last := last) (by omega) (by omega)
      have hf := first_len (q := p.drop at_) (by omega)
      have hfl := hf.2.1
      rw [List.length_drop] at hfl
      have hw : IntKind.i64.wrap ((at_ : Int) + (firstN (p.drop at_) : Int)) = ((at_ + firstN (p.drop at_) : Nat) : Int) := by
        rw [IntKind.wrap_i64]; omega
      rw [hyes, begs_cons] at hh
      (conv => arg 4; whnf); repeat (refine ⟨rfl, ?_⟩; conv => arg 4; whnf)
      refine round_in ?_
      conv => arg 4; whnf
      refine ⟨fun hc => ?_, fun hc => ?_⟩
      · have hc : (at_ : Int) = pos := by simpa using hc
        rw [decide_eq_true hc, Bool.true_or] at hh
        (conv => arg 4; whnf); repeat (refine ⟨rfl, ?_⟩; conv => arg 4; whnf)
        refine ⟨fun _ => ?_, fun h => absurd h (by first | (simp; done) | (simp [u8s]; done))⟩
        conv => arg 4; whnf
        refine fin_exit ?_
        show holds _ _ _ _
        conv => arg 4; whnf
        refine ret_in ?_
        show holds _ _ _ _
        conv => arg 4; whnf
        rw [hh]
        exact ⟨by decide, by (repeat' (first | with_reducible exact Le.refl _ _ | exact Le.bl | exact Le.lb | exact Le.nils | exact Le.nilsFull | exact Le.none | exact LeL.nil _ | refine LeL.cons ?_ ?_ | refine Le.tup ?_ | refine Le.agg ?_ | exact Le.refl _ _ | exact LeL.refl _ _)), trivial, (by (repeat' (first | with_reducible assumption | exact ClL.nil | exact Cl.int _ _ | exact Cl.bool _ | exact Cl.bl _ | exact Cl.bs _ | exact Cl.str _ | exact Cl.nils | exact Cl.nilp | exact Cl.rec _ | exact Cl.bat _ | exact Cl.recsV _ | exact Cl.strsV _ | exact Cl.intsV _ | exact Cl.req _ | exact Cl.rsp _ | exact Cl.reqA _ | exact Cl.rspA _ | exact Cl.batsV _ | exact Cl.prsV _ | exact Cl.atsV _ | exact Cl.entA _ _ | exact Cl.foundA _ | exact Cl.getB _ | exact Cl.encA _ | exact Cl.firstA _ | refine ClL.cons ?_ ?_ | refine Cl.tup ?_ | refine Cl.agg ?_ | exact ClO.RO _ _)) : Cl _) _, trivial⟩
      · have hc : ¬ (at_ : Int) = pos := by simpa using hc
        rw [decide_eq_false hc, Bool.false_or] at hh
        (conv => arg 4; whnf); repeat (refine ⟨rfl, ?_⟩; conv => arg 4; whnf)
        refine ⟨fun h => absurd h (by first | (simp; done) | (simp [u8s]; done)), fun _ => ?_⟩
        conv => arg 4; whnf
        exact ⟨⟨at_ + firstN (p.drop at_), (firstB (p.drop at_)).last, by omega, hh⟩, by show p.length - (at_ + firstN (p.drop at_)) < p.length - at_; omega, WkG.of rfl rfl ⟨Le.refl _ _, Le.of_eq (congrArg _ hw), Le.refl _ _, Le.refl _ _, trivial⟩ ⟨⟨_, rfl, LeO.loop ⟨Le.refl _ _, Le.refl _ _, trivial⟩ rfl rfl rfl⟩, ⟨_, rfl, LeO.refl _ _⟩, ⟨_, rfl, LeO.refl _ _⟩, ⟨_, rfl, LeO.refl _ _⟩, trivial⟩ ⟨rfl, rfl, rfl, rfl, trivial⟩ ⟨⟨by decide, rfl⟩, ⟨by decide, ClO.cells (by (repeat' (first | with_reducible assumption | exact ClL.nil | exact Cl.int _ _ | exact Cl.bool _ | exact Cl.bl _ | exact Cl.bs _ | exact Cl.str _ | exact Cl.nils | exact Cl.nilp | exact Cl.rec _ | exact Cl.bat _ | exact Cl.recsV _ | exact Cl.strsV _ | exact Cl.intsV _ | exact Cl.req _ | exact Cl.rsp _ | exact Cl.reqA _ | exact Cl.rspA _ | exact Cl.batsV _ | exact Cl.prsV _ | exact Cl.atsV _ | exact Cl.entA _ _ | exact Cl.foundA _ | exact Cl.getB _ | exact Cl.encA _ | exact Cl.firstA _ | refine ClL.cons ?_ ?_ | refine Cl.tup ?_ | refine Cl.agg ?_ | exact ClO.RO _ _))) _⟩, ⟨by decide, rfl⟩, ⟨by decide, rfl⟩, trivial⟩⟩
  · have hlt : at_ = p.length := by rw [u8s_length] at hlt; simp at hlt; omega
    have hno : allP p at_ last = [] := allP_end (by omega)
    rw [hno] at hh
    conv => arg 4; whnf
    refine fin_exit ?_
    show holds _ _ _ _
    conv => arg 4; whnf
    refine ret_in ?_
    show holds _ _ _ _
    conv => arg 4; whnf
    rw [hh]
    exact ⟨by decide, by (repeat' (first | with_reducible exact Le.refl _ _ | exact Le.bl | exact Le.lb | exact Le.nils | exact Le.nilsFull | exact Le.none | exact LeL.nil _ | refine LeL.cons ?_ ?_ | refine Le.tup ?_ | refine Le.agg ?_ | exact Le.refl _ _ | exact LeL.refl _ _)), trivial, (by (repeat' (first | with_reducible assumption | exact ClL.nil | exact Cl.int _ _ | exact Cl.bool _ | exact Cl.bl _ | exact Cl.bs _ | exact Cl.str _ | exact Cl.nils | exact Cl.nilp | exact Cl.rec _ | exact Cl.bat _ | exact Cl.recsV _ | exact Cl.strsV _ | exact Cl.intsV _ | exact Cl.req _ | exact Cl.rsp _ | exact Cl.reqA _ | exact Cl.rspA _ | exact Cl.batsV _ | exact Cl.prsV _ | exact Cl.atsV _ | exact Cl.entA _ _ | exact Cl.foundA _ | exact Cl.getB _ | exact Cl.encA _ | exact Cl.firstA _ | refine ClL.cons ?_ ?_ | refine Cl.tup ?_ | refine Cl.agg ?_ | exact ClO.RO _ _)) : Cl _) _, trivial⟩

theorem seekL_cons (x : Nat × Bat) (l : List (Nat × Bat)) (f off : Int) : seekL f off (x :: l) = if f ≤ x.1 ∧ off ≤ x.2.last then ((x.1 : Int), true) else seekL f off l := rfl
structure SkI (p : List UInt8) (f off : Int) where
  at_ : Nat
  last : Int
  hat : at_ ≤ p.length
  h : seekL f off (allP p 0 (-1)) = seekL f off (allP p at_ last)

theorem ixSeek {p : List UInt8} {l : List (Int × Int)} {off : Int} (hl : p.length ≤ 100000000) (hll : l.length ≤ 1000000) : CallOK Try.prog 74 [bs p, prsV l, .int .i64 off] [] 0 (Out (.tup [.int .i64 (seekP p l off).1, .bool (seekP p l off).2]) [] 0) := by
  refine CallOK.fit (by decide) ?_
  refine callOK Try.call74 Try.func74 Try.ntmps74 rfl ?_
  conv => arg 4; whnf
  refine call0 (ixLkO hll) (ClL.cons (Cl.prsV _) (ClL.cons (Cl.int _ _) ClL.nil)) (by (repeat' (first | with_reducible assumption | exact ClL.nil | exact Cl.int _ _ | exact Cl.bool _ | exact Cl.bl _ | exact Cl.bs _ | exact Cl.str _ | exact Cl.nils | exact Cl.nilp | exact Cl.rec _ | exact Cl.bat _ | exact Cl.recsV _ | exact Cl.strsV _ | exact Cl.intsV _ | exact Cl.req _ | exact Cl.rsp _ | exact Cl.reqA _ | exact Cl.rspA _ | exact Cl.batsV _ | exact Cl.prsV _ | exact Cl.atsV _ | exact Cl.entA _ _ | exact Cl.foundA _ | exact Cl.getB _ | exact Cl.encA _ | exact Cl.firstA _ | refine ClL.cons ?_ ?_ | refine Cl.tup ?_ | refine Cl.agg ?_ | exact ClO.RO _ _))) ?_
  (conv => arg 4; whnf); repeat (refine ⟨rfl, ?_⟩; conv => arg 4; whnf)
  refine call0 (ixBegins hl) (by (repeat' (first | with_reducible assumption | exact ClL.nil | exact Cl.int _ _ | exact Cl.bool _ | exact Cl.bl _ | exact Cl.bs _ | exact Cl.str _ | exact Cl.nils | exact Cl.nilp | exact Cl.rec _ | exact Cl.bat _ | exact Cl.recsV _ | exact Cl.strsV _ | exact Cl.intsV _ | exact Cl.req _ | exact Cl.rsp _ | exact Cl.reqA _ | exact Cl.rspA _ | exact Cl.batsV _ | exact Cl.prsV _ | exact Cl.atsV _ | exact Cl.entA _ _ | exact Cl.foundA _ | exact Cl.getB _ | exact Cl.encA _ | exact Cl.firstA _ | refine ClL.cons ?_ ?_ | refine Cl.tup ?_ | refine Cl.agg ?_ | exact ClO.RO _ _))) (by (repeat' (first | with_reducible assumption | exact ClL.nil | exact Cl.int _ _ | exact Cl.bool _ | exact Cl.bl _ | exact Cl.bs _ | exact Cl.str _ | exact Cl.nils | exact Cl.nilp | exact Cl.rec _ | exact Cl.bat _ | exact Cl.recsV _ | exact Cl.strsV _ | exact Cl.intsV _ | exact Cl.req _ | exact Cl.rsp _ | exact Cl.reqA _ | exact Cl.rspA _ | exact Cl.batsV _ | exact Cl.prsV _ | exact Cl.atsV _ | exact Cl.entA _ _ | exact Cl.foundA _ | exact Cl.getB _ | exact Cl.encA _ | exact Cl.firstA _ | refine ClL.cons ?_ ?_ | refine Cl.tup ?_ | refine Cl.agg ?_ | exact ClO.RO _ _))) ?_
  (conv => arg 4; whnf); repeat (refine ⟨rfl, ?_⟩; conv => arg 4; whnf)
  refine ⟨fun hb => ?_, fun hb => ?_⟩
  · have hb : begs (allP p 0 (-1)) (lkO l off) = false := by simpa using hb
    have hs : seekP p l off = seekL 0 off (allP p 0 (-1)) := by unfold seekP; rw [hb]; rfl
    rw [hs]
    (conv => arg 4; whnf); repeat (refine ⟨rfl, ?_⟩; conv => arg 4; whnf)
    refine holds_out [] (batAll (p := p)) rfl trivial (ClL.cons (Cl.bs p) ClL.nil _).symm ?_
    conv => arg 4; whnf
    simp only [renL_u8s]
    refine callOK Try.call115 Try.func115 Try.ntmps115 rfl ?_
    conv => arg 4; whnf
    refine tri_loopG (ι := SkI p (0) off) (fun a => ⟨[(4, .int .i64 a.last), (3, .int .i64 a.at_), (0, .yld 5), (1, .ptr 4 0)], [(5, loopOf Try.f74 0 [(8, .ptr 3 0), (7, .ptr 2 0), (6, .ptr 1 0), (5, .ptr 0 0)] 35 .ready), (4, .cells [bs p]), (3, .cells [.int .i64 (0)]), (2, .cells [.bl false]), (1, .cells [.int .i64 0]), (0, .cells [.int .i64 off])], 6, 40⟩) (fun a => p.length - a.at_) ⟨0, -1, Nat.zero_le _, rfl⟩ ?_ ?_
    · exact WkG.of rfl rfl ⟨Le.refl _ _, Le.refl _ _, Le.refl _ _, Le.refl _ _, trivial⟩ ⟨⟨_, rfl, LeO.loop ⟨Le.refl _ _, Le.refl _ _, Le.refl _ _, Le.refl _ _, trivial⟩ rfl rfl rfl⟩, ⟨_, rfl, LeO.refl _ _⟩, ⟨_, rfl, LeO.refl _ _⟩, ⟨_, rfl, LeO.refl _ _⟩, ⟨_, rfl, LeO.refl _ _⟩, ⟨_, rfl, LeO.refl _ _⟩, trivial⟩ ⟨rfl, rfl, rfl, rfl, trivial⟩ ⟨⟨by decide, rfl⟩, ⟨by decide, ClO.cells (by (repeat' (first | with_reducible assumption | exact ClL.nil | exact Cl.int _ _ | exact Cl.bool _ | exact Cl.bl _ | exact Cl.bs _ | exact Cl.str _ | exact Cl.nils | exact Cl.nilp | exact Cl.rec _ | exact Cl.bat _ | exact Cl.recsV _ | exact Cl.strsV _ | exact Cl.intsV _ | exact Cl.req _ | exact Cl.rsp _ | exact Cl.reqA _ | exact Cl.rspA _ | exact Cl.batsV _ | exact Cl.prsV _ | exact Cl.atsV _ | exact Cl.entA _ _ | exact Cl.foundA _ | exact Cl.getB _ | exact Cl.encA _ | exact Cl.firstA _ | refine ClL.cons ?_ ?_ | refine Cl.tup ?_ | refine Cl.agg ?_ | exact ClO.RO _ _))) _⟩, ⟨by decide, rfl⟩, ⟨by decide, rfl⟩, ⟨by decide, rfl⟩, ⟨by decide, rfl⟩, trivial⟩
    rintro ⟨at_, last, hat, hh⟩
    dsimp only
    conv => arg 4; whnf
    refine ⟨fun hlt => ?_, fun hlt => ?_⟩
    · have hlt : at_ < p.length := by rw [u8s_length] at hlt; simp at hlt; omega
      (conv => arg 4; whnf); repeat (refine ⟨rfl, ?_⟩; conv => arg 4; whnf)
      (repeat (refine ⟨by first | (rw [u8s_length]; omega) | (simp only [u8s_length]; omega) | omega | decide, ?_⟩; conv => arg 4; whnf))
      refine holds_args (args' := [bs (p.drop at_)]) ⟨Le.of_eq (congrArg (AV.sl .none 0) (by rw [Int.toNat_natCast, u8s_drop])), trivial⟩ ?_
      refine call0 (batFirst' (p := p.drop at_) (by simp; omega)) (by (repeat' (first | with_reducible assumption | exact ClL.nil | exact Cl.int _ _ | exact Cl.bool _ | exact Cl.bl _ | exact Cl.bs _ | exact Cl.str _ | exact Cl.nils | exact Cl.nilp | exact Cl.rec _ | exact Cl.bat _ | exact Cl.recsV _ | exact Cl.strsV _ | exact Cl.intsV _ | exact Cl.req _ | exact Cl.rsp _ | exact Cl.reqA _ | exact Cl.rspA _ | exact Cl.batsV _ | exact Cl.prsV _ | exact Cl.atsV _ | exact Cl.entA _ _ | exact Cl.foundA _ | exact Cl.getB _ | exact Cl.encA _ | exact Cl.firstA _ | refine ClL.cons ?_ ?_ | refine Cl.tup ?_ | refine Cl.agg ?_ | exact ClO.RO _ _))) (Cl.firstA _) ?_
      (conv => arg 4; whnf); repeat (refine ⟨rfl, ?_⟩; conv => arg 4; whnf)
      refine ⟨fun hb => ?_, fun hb => ?_⟩
      · simp only [Bool.cond_true_left, Bool.cond_false_right, Bool.or_eq_true, Bool.and_eq_true, Bool.not_eq_true', decide_eq_true_eq, beq_iff_eq, bne_iff_ne, u8s_length, Bool.not_eq_true, gt_iff_lt, ge_iff_le] at hb
        have hno : allP p at_ last = [] := allP_no (by omega)
        rw [hno] at hh
        conv => arg 4; whnf
        refine fin_exit ?_
        show holds _ _ _ _
        conv => arg 4; whnf
        refine ret_in ?_
        show holds _ _ _ _
        conv => arg 4; whnf
        (conv => arg 4; whnf); repeat (refine ⟨rfl, ?_⟩; conv => arg 4; whnf)
        rw [hh]
        exact ⟨by decide, by (repeat' (first | with_reducible exact Le.refl _ _ | exact Le.bl | exact Le.lb | exact Le.nils | exact Le.nilsFull | exact Le.none | exact LeL.nil _ | refine LeL.cons ?_ ?_ | refine Le.tup ?_ | refine Le.agg ?_ | exact Le.refl _ _ | exact LeL.refl _ _)), trivial, (by (repeat' (first | with_reducible assumption | exact ClL.nil | exact Cl.int _ _ | exact Cl.bool _ | exact Cl.bl _ | exact Cl.bs _ | exact Cl.str _ | exact Cl.nils | exact Cl.nilp | exact Cl.rec _ | exact Cl.bat _ | exact Cl.recsV _ | exact Cl.strsV _ | exact Cl.intsV _ | exact Cl.req _ | exact Cl.rsp _ | exact Cl.reqA _ | exact Cl.rspA _ | exact Cl.batsV _ | exact Cl.prsV _ | exact Cl.atsV _ | exact Cl.entA _ _ | exact Cl.foundA _ | exact Cl.getB _ | exact Cl.encA _ | exact Cl.firstA _ | refine ClL.cons ?_ ?_ | refine Cl.tup ?_ | refine Cl.agg ?_ | exact ClO.RO _ _)) : Cl _) _, trivial⟩
      · rw [← Bool.not_eq_true] at hb; simp only [Bool.cond_true_left, Bool.cond_false_right, Bool.or_eq_true, Bool.and_eq_true, Bool.not_eq_true', decide_eq_true_eq, beq_iff_eq, bne_iff_ne, u8s_length, gt_iff_lt, ge_iff_le] at hb
        have hyes := allP_yes (p := p) (a := at_) (last := last) (by omega) (by omega)
        have hf := first_len (q := p.drop at_) (by omega)
        have hfl := hf.2.1
        rw [List.length_drop] at hfl
        have hw : IntKind.i64.wrap ((at_ : Int) + (firstN (p.drop at_) : Int)) = ((at_ + firstN (p.drop at_) : Nat) : Int) := by
          rw [IntKind.wrap_i64]; omega
        rw [hyes, seekL_cons] at hh
        (conv => arg 4; whnf); repeat (refine ⟨rfl, ?_⟩; conv => arg 4; whnf)
        refine round_in ?_
        conv => arg 4; whnf
        refine ⟨fun hc => ?_, fun hc => ?_⟩
        · simp only [Bool.cond_true_left, Bool.cond_false_right, Bool.or_eq_true, Bool.and_eq_true, Bool.not_eq_true', decide_eq_true_eq, beq_iff_eq, bne_iff_ne, u8s_length, Bool.not_eq_true, gt_iff_lt, ge_iff_le] at hc
          rw [if_neg (by simp only; omega)] at hh
          (conv => arg 4; whnf); repeat (refine ⟨rfl, ?_⟩; conv => arg 4; whnf)
          refine ⟨fun h => absurd h (by first | (simp; done) | (simp [u8s]; done)), fun _ => ?_⟩
          conv => arg 4; whnf
          exact ⟨⟨at_ + firstN (p.drop at_), (firstB (p.drop at_)).last, by omega, hh⟩, by show p.length - (at_ + firstN (p.drop at_)) < p.length - at_; omega, WkG.of rfl rfl ⟨Le.refl _ _, Le.of_eq (congrArg _ hw), Le.refl _ _, Le.refl _ _, trivial⟩ ⟨⟨_, rfl, LeO.loop ⟨Le.refl _ _, Le.refl _ _, Le.refl _ _, Le.refl _ _, trivial⟩ rfl rfl rfl⟩, ⟨_, rfl, LeO.refl _ _⟩, ⟨_, rfl, LeO.refl _ _⟩, ⟨_, rfl, LeO.refl _ _⟩, ⟨_, rfl, LeO.refl _ _⟩, ⟨_, rfl, LeO.refl _ _⟩, trivial⟩ ⟨rfl, rfl, rfl, rfl, trivial⟩ ⟨⟨by decide, rfl⟩, ⟨by decide, ClO.cells (by (repeat' (first | with_reducible assumption | exact ClL.nil | exact Cl.int _ _ | exact Cl.bool _ | exact Cl.bl _ | exact Cl.bs _ | exact Cl.str _ | exact Cl.nils | exact Cl.nilp | exact Cl.rec _ | exact Cl.bat _ | exact Cl.recsV _ | exact Cl.strsV _ | exact Cl.intsV _ | exact Cl.req _ | exact Cl.rsp _ | exact Cl.reqA _ | exact Cl.rspA _ | exact Cl.batsV _ | exact Cl.prsV _ | exact Cl.atsV _ | exact Cl.entA _ _ | exact Cl.foundA _ | exact Cl.getB _ | exact Cl.encA _ | exact Cl.firstA _ | refine ClL.cons ?_ ?_ | refine Cl.tup ?_ | refine Cl.agg ?_ | exact ClO.RO _ _))) _⟩, ⟨by decide, rfl⟩, ⟨by decide, rfl⟩, ⟨by decide, rfl⟩, ⟨by decide, rfl⟩, trivial⟩⟩
        · rw [← Bool.not_eq_true] at hc; simp only [Bool.cond_true_left, Bool.cond_false_right, Bool.or_eq_true, Bool.and_eq_true, Bool.not_eq_true', decide_eq_true_eq, beq_iff_eq, bne_iff_ne, u8s_length, gt_iff_lt, ge_iff_le] at hc
          rw [if_pos (by simp only; omega)] at hh
          (conv => arg 4; whnf); repeat (refine ⟨rfl, ?_⟩; conv => arg 4; whnf)
          refine ⟨fun _ => ?_, fun h => absurd h (by first | (simp; done) | (simp [u8s]; done))⟩
          conv => arg 4; whnf
          refine fin_exit ?_
          show holds _ _ _ _
          conv => arg 4; whnf
          refine ret_in ?_
          show holds _ _ _ _
          conv => arg 4; whnf
          (conv => arg 4; whnf); repeat (refine ⟨rfl, ?_⟩; conv => arg 4; whnf)
          rw [hh]
          exact ⟨by decide, by (repeat' (first | with_reducible exact Le.refl _ _ | exact Le.bl | exact Le.lb | exact Le.nils | exact Le.nilsFull | exact Le.none | exact LeL.nil _ | refine LeL.cons ?_ ?_ | refine Le.tup ?_ | refine Le.agg ?_ | exact Le.refl _ _ | exact LeL.refl _ _)), trivial, (by (repeat' (first | with_reducible assumption | exact ClL.nil | exact Cl.int _ _ | exact Cl.bool _ | exact Cl.bl _ | exact Cl.bs _ | exact Cl.str _ | exact Cl.nils | exact Cl.nilp | exact Cl.rec _ | exact Cl.bat _ | exact Cl.recsV _ | exact Cl.strsV _ | exact Cl.intsV _ | exact Cl.req _ | exact Cl.rsp _ | exact Cl.reqA _ | exact Cl.rspA _ | exact Cl.batsV _ | exact Cl.prsV _ | exact Cl.atsV _ | exact Cl.entA _ _ | exact Cl.foundA _ | exact Cl.getB _ | exact Cl.encA _ | exact Cl.firstA _ | refine ClL.cons ?_ ?_ | refine Cl.tup ?_ | refine Cl.agg ?_ | exact ClO.RO _ _)) : Cl _) _, trivial⟩
    · have hlt : at_ = p.length := by rw [u8s_length] at hlt; simp at hlt; omega
      have hno : allP p at_ last = [] := allP_end (by omega)
      rw [hno] at hh
      conv => arg 4; whnf
      refine fin_exit ?_
      show holds _ _ _ _
      conv => arg 4; whnf
      refine ret_in ?_
      show holds _ _ _ _
      conv => arg 4; whnf
      (conv => arg 4; whnf); repeat (refine ⟨rfl, ?_⟩; conv => arg 4; whnf)
      rw [hh]
      exact ⟨by decide, by (repeat' (first | with_reducible exact Le.refl _ _ | exact Le.bl | exact Le.lb | exact Le.nils | exact Le.nilsFull | exact Le.none | exact LeL.nil _ | refine LeL.cons ?_ ?_ | refine Le.tup ?_ | refine Le.agg ?_ | exact Le.refl _ _ | exact LeL.refl _ _)), trivial, (by (repeat' (first | with_reducible assumption | exact ClL.nil | exact Cl.int _ _ | exact Cl.bool _ | exact Cl.bl _ | exact Cl.bs _ | exact Cl.str _ | exact Cl.nils | exact Cl.nilp | exact Cl.rec _ | exact Cl.bat _ | exact Cl.recsV _ | exact Cl.strsV _ | exact Cl.intsV _ | exact Cl.req _ | exact Cl.rsp _ | exact Cl.reqA _ | exact Cl.rspA _ | exact Cl.batsV _ | exact Cl.prsV _ | exact Cl.atsV _ | exact Cl.entA _ _ | exact Cl.foundA _ | exact Cl.getB _ | exact Cl.encA _ | exact Cl.firstA _ | refine ClL.cons ?_ ?_ | refine Cl.tup ?_ | refine Cl.agg ?_ | exact ClO.RO _ _)) : Cl _) _, trivial⟩
  · have hb : begs (allP p 0 (-1)) (lkO l off) = true := by simpa using hb
    have hs : seekP p l off = seekL (lkO l off) off (allP p 0 (-1)) := by unfold seekP; rw [hb]; rfl
    rw [hs]
    (conv => arg 4; whnf); repeat (refine ⟨rfl, ?_⟩; conv => arg 4; whnf)
    refine holds_out [] (batAll (p := p)) rfl trivial (ClL.cons (Cl.bs p) ClL.nil _).symm ?_
    conv => arg 4; whnf
    simp only [renL_u8s]
    refine callOK Try.call115 Try.func115 Try.ntmps115 rfl ?_
    conv => arg 4; whnf
    refine tri_loopG (ι := SkI p (lkO l off) off) (fun a => ⟨[(4, .int .i64 a.last), (3, .int .i64 a.at_), (0, .yld 5), (1, .ptr 4 0)], [(5, loopOf Try.f74 0 [(8, .ptr 3 0), (7, .ptr 2 0), (6, .ptr 1 0), (5, .ptr 0 0)] 35 .ready), (4, .cells [bs p]), (3, .cells [.int .i64 (lkO l off)]), (2, .cells [.bl false]), (1, .cells [.int .i64 0]), (0, .cells [.int .i64 off])], 6, 40⟩) (fun a => p.length - a.at_) ⟨0, -1, Nat.zero_le _, rfl⟩ ?_ ?_
    · exact WkG.of rfl rfl ⟨Le.refl _ _, Le.refl _ _, Le.refl _ _, Le.refl _ _, trivial⟩ ⟨⟨_, rfl, LeO.loop ⟨Le.refl _ _, Le.refl _ _, Le.refl _ _, Le.refl _ _, trivial⟩ rfl rfl rfl⟩, ⟨_, rfl, LeO.refl _ _⟩, ⟨_, rfl, LeO.refl _ _⟩, ⟨_, rfl, LeO.refl _ _⟩, ⟨_, rfl, LeO.refl _ _⟩, ⟨_, rfl, LeO.refl _ _⟩, trivial⟩ ⟨rfl, rfl, rfl, rfl, trivial⟩ ⟨⟨by decide, rfl⟩, ⟨by decide, ClO.cells (by (repeat' (first | with_reducible assumption | exact ClL.nil | exact Cl.int _ _ | exact Cl.bool _ | exact Cl.bl _ | exact Cl.bs _ | exact Cl.str _ | exact Cl.nils | exact Cl.nilp | exact Cl.rec _ | exact Cl.bat _ | exact Cl.recsV _ | exact Cl.strsV _ | exact Cl.intsV _ | exact Cl.req _ | exact Cl.rsp _ | exact Cl.reqA _ | exact Cl.rspA _ | exact Cl.batsV _ | exact Cl.prsV _ | exact Cl.atsV _ | exact Cl.entA _ _ | exact Cl.foundA _ | exact Cl.getB _ | exact Cl.encA _ | exact Cl.firstA _ | refine ClL.cons ?_ ?_ | refine Cl.tup ?_ | refine Cl.agg ?_ | exact ClO.RO _ _))) _⟩, ⟨by decide, rfl⟩, ⟨by decide, rfl⟩, ⟨by decide, rfl⟩, ⟨by decide, rfl⟩, trivial⟩
    rintro ⟨at_, last, hat, hh⟩
    dsimp only
    conv => arg 4; whnf
    refine ⟨fun hlt => ?_, fun hlt => ?_⟩
    · have hlt : at_ < p.length := by rw [u8s_length] at hlt; simp at hlt; omega
      (conv => arg 4; whnf); repeat (refine ⟨rfl, ?_⟩; conv => arg 4; whnf)
      (repeat (refine ⟨by first | (rw [u8s_length]; omega) | (simp only [u8s_length]; omega) | omega | decide, ?_⟩; conv => arg 4; whnf))
      refine holds_args (args' := [bs (p.drop at_)]) ⟨Le.of_eq (congrArg (AV.sl .none 0) (by rw [Int.toNat_natCast, u8s_drop])), trivial⟩ ?_
      refine call0 (batFirst' (p := p.drop at_) (by simp; omega)) (by (repeat' (first | with_reducible assumption | exact ClL.nil | exact Cl.int _ _ | exact Cl.bool _ | exact Cl.bl _ | exact Cl.bs _ | exact Cl.str _ | exact Cl.nils | exact Cl.nilp | exact Cl.rec _ | exact Cl.bat _ | exact Cl.recsV _ | exact Cl.strsV _ | exact Cl.intsV _ | exact Cl.req _ | exact Cl.rsp _ | exact Cl.reqA _ | exact Cl.rspA _ | exact Cl.batsV _ | exact Cl.prsV _ | exact Cl.atsV _ | exact Cl.entA _ _ | exact Cl.foundA _ | exact Cl.getB _ | exact Cl.encA _ | exact Cl.firstA _ | refine ClL.cons ?_ ?_ | refine Cl.tup ?_ | refine Cl.agg ?_ | exact ClO.RO _ _))) (Cl.firstA _) ?_
      (conv => arg 4; whnf); repeat (refine ⟨rfl, ?_⟩; conv => arg 4; whnf)
      refine ⟨fun hb => ?_, fun hb => ?_⟩
      · simp only [Bool.cond_true_left, Bool.cond_false_right, Bool.or_eq_true, Bool.and_eq_true, Bool.not_eq_true', decide_eq_true_eq, beq_iff_eq, bne_iff_ne, u8s_length, Bool.not_eq_true, gt_iff_lt, ge_iff_le] at hb
        have hno : allP p at_ last = [] := allP_no (by omega)
        rw [hno] at hh
        conv => arg 4; whnf
        refine fin_exit ?_
        show holds _ _ _ _
        conv => arg 4; whnf
        refine ret_in ?_
        show holds _ _ _ _
        conv => arg 4; whnf
        (conv => arg 4; whnf); repeat (refine ⟨rfl, ?_⟩; conv => arg 4; whnf)
        rw [hh]
        exact ⟨by decide, by (repeat' (first | with_reducible exact Le.refl _ _ | exact Le.bl | exact Le.lb | exact Le.nils | exact Le.nilsFull | exact Le.none | exact LeL.nil _ | refine LeL.cons ?_ ?_ | refine Le.tup ?_ | refine Le.agg ?_ | exact Le.refl _ _ | exact LeL.refl _ _)), trivial, (by (repeat' (first | with_reducible assumption | exact ClL.nil | exact Cl.int _ _ | exact Cl.bool _ | exact Cl.bl _ | exact Cl.bs _ | exact Cl.str _ | exact Cl.nils | exact Cl.nilp | exact Cl.rec _ | exact Cl.bat _ | exact Cl.recsV _ | exact Cl.strsV _ | exact Cl.intsV _ | exact Cl.req _ | exact Cl.rsp _ | exact Cl.reqA _ | exact Cl.rspA _ | exact Cl.batsV _ | exact Cl.prsV _ | exact Cl.atsV _ | exact Cl.entA _ _ | exact Cl.foundA _ | exact Cl.getB _ | exact Cl.encA _ | exact Cl.firstA _ | refine ClL.cons ?_ ?_ | refine Cl.tup ?_ | refine Cl.agg ?_ | exact ClO.RO _ _)) : Cl _) _, trivial⟩
      · rw [← Bool.not_eq_true] at hb; simp only [Bool.cond_true_left, Bool.cond_false_right, Bool.or_eq_true, Bool.and_eq_true, Bool.not_eq_true', decide_eq_true_eq, beq_iff_eq, bne_iff_ne, u8s_length, gt_iff_lt, ge_iff_le] at hb
        have hyes := allP_yes (p := p) (a := at_) (last := last) (by omega) (by omega)
        have hf := first_len (q := p.drop at_) (by omega)
        have hfl := hf.2.1
        rw [List.length_drop] at hfl
        have hw : IntKind.i64.wrap ((at_ : Int) + (firstN (p.drop at_) : Int)) = ((at_ + firstN (p.drop at_) : Nat) : Int) := by
          rw [IntKind.wrap_i64]; omega
        rw [hyes, seekL_cons] at hh
        (conv => arg 4; whnf); repeat (refine ⟨rfl, ?_⟩; conv => arg 4; whnf)
        refine round_in ?_
        conv => arg 4; whnf
        refine ⟨fun hc => ?_, fun hc => ?_⟩
        · simp only [Bool.cond_true_left, Bool.cond_false_right, Bool.or_eq_true, Bool.and_eq_true, Bool.not_eq_true', decide_eq_true_eq, beq_iff_eq, bne_iff_ne, u8s_length, Bool.not_eq_true, gt_iff_lt, ge_iff_le] at hc
          rw [if_neg (by simp only; omega)] at hh
          (conv => arg 4; whnf); repeat (refine ⟨rfl, ?_⟩; conv => arg 4; whnf)
          refine ⟨fun h => absurd h (by first | (simp; done) | (simp [u8s]; done)), fun _ => ?_⟩
          conv => arg 4; whnf
          exact ⟨⟨at_ + firstN (p.drop at_), (firstB (p.drop at_)).last, by omega, hh⟩, by show p.length - (at_ + firstN (p.drop at_)) < p.length - at_; omega, WkG.of rfl rfl ⟨Le.refl _ _, Le.of_eq (congrArg _ hw), Le.refl _ _, Le.refl _ _, trivial⟩ ⟨⟨_, rfl, LeO.loop ⟨Le.refl _ _, Le.refl _ _, Le.refl _ _, Le.refl _ _, trivial⟩ rfl rfl rfl⟩, ⟨_, rfl, LeO.refl _ _⟩, ⟨_, rfl, LeO.refl _ _⟩, ⟨_, rfl, LeO.refl _ _⟩, ⟨_, rfl, LeO.refl _ _⟩, ⟨_, rfl, LeO.refl _ _⟩, trivial⟩ ⟨rfl, rfl, rfl, rfl, trivial⟩ ⟨⟨by decide, rfl⟩, ⟨by decide, ClO.cells (by (repeat' (first | with_reducible assumption | exact ClL.nil | exact Cl.int _ _ | exact Cl.bool _ | exact Cl.bl _ | exact Cl.bs _ | exact Cl.str _ | exact Cl.nils | exact Cl.nilp | exact Cl.rec _ | exact Cl.bat _ | exact Cl.recsV _ | exact Cl.strsV _ | exact Cl.intsV _ | exact Cl.req _ | exact Cl.rsp _ | exact Cl.reqA _ | exact Cl.rspA _ | exact Cl.batsV _ | exact Cl.prsV _ | exact Cl.atsV _ | exact Cl.entA _ _ | exact Cl.foundA _ | exact Cl.getB _ | exact Cl.encA _ | exact Cl.firstA _ | refine ClL.cons ?_ ?_ | refine Cl.tup ?_ | refine Cl.agg ?_ | exact ClO.RO _ _))) _⟩, ⟨by decide, rfl⟩, ⟨by decide, rfl⟩, ⟨by decide, rfl⟩, ⟨by decide, rfl⟩, trivial⟩⟩
        · rw [← Bool.not_eq_true] at hc; simp only [Bool.cond_true_left, Bool.cond_false_right, Bool.or_eq_true, Bool.and_eq_true, Bool.not_eq_true', decide_eq_true_eq, beq_iff_eq, bne_iff_ne, u8s_length, gt_iff_lt, ge_iff_le] at hc
          rw [if_pos (by simp only; omega)] at hh
          (conv => arg 4; whnf); repeat (refine ⟨rfl, ?_⟩; conv => arg 4; whnf)
          refine ⟨fun _ => ?_, fun h => absurd h (by first | (simp; done) | (simp [u8s]; done))⟩
          conv => arg 4; whnf
          refine fin_exit ?_
          show holds _ _ _ _
          conv => arg 4; whnf
          refine ret_in ?_
          show holds _ _ _ _
          conv => arg 4; whnf
          (conv => arg 4; whnf); repeat (refine ⟨rfl, ?_⟩; conv => arg 4; whnf)
          rw [hh]
          exact ⟨by decide, by (repeat' (first | with_reducible exact Le.refl _ _ | exact Le.bl | exact Le.lb | exact Le.nils | exact Le.nilsFull | exact Le.none | exact LeL.nil _ | refine LeL.cons ?_ ?_ | refine Le.tup ?_ | refine Le.agg ?_ | exact Le.refl _ _ | exact LeL.refl _ _)), trivial, (by (repeat' (first | with_reducible assumption | exact ClL.nil | exact Cl.int _ _ | exact Cl.bool _ | exact Cl.bl _ | exact Cl.bs _ | exact Cl.str _ | exact Cl.nils | exact Cl.nilp | exact Cl.rec _ | exact Cl.bat _ | exact Cl.recsV _ | exact Cl.strsV _ | exact Cl.intsV _ | exact Cl.req _ | exact Cl.rsp _ | exact Cl.reqA _ | exact Cl.rspA _ | exact Cl.batsV _ | exact Cl.prsV _ | exact Cl.atsV _ | exact Cl.entA _ _ | exact Cl.foundA _ | exact Cl.getB _ | exact Cl.encA _ | exact Cl.firstA _ | refine ClL.cons ?_ ?_ | refine Cl.tup ?_ | refine Cl.agg ?_ | exact ClO.RO _ _)) : Cl _) _, trivial⟩
    · have hlt : at_ = p.length := by rw [u8s_length] at hlt; simp at hlt; omega
      have hno : allP p at_ last = [] := allP_end (by omega)
      rw [hno] at hh
      conv => arg 4; whnf
      refine fin_exit ?_
      show holds _ _ _ _
      conv => arg 4; whnf
      refine ret_in ?_
      show holds _ _ _ _
      conv => arg 4; whnf
      (conv => arg 4; whnf); repeat (refine ⟨rfl, ?_⟩; conv => arg 4; whnf)
      rw [hh]
      exact ⟨by decide, by (repeat' (first | with_reducible exact Le.refl _ _ | exact Le.bl | exact Le.lb | exact Le.nils | exact Le.nilsFull | exact Le.none | exact LeL.nil _ | refine LeL.cons ?_ ?_ | refine Le.tup ?_ | refine Le.agg ?_ | exact Le.refl _ _ | exact LeL.refl _ _)), trivial, (by (repeat' (first | with_reducible assumption | exact ClL.nil | exact Cl.int _ _ | exact Cl.bool _ | exact Cl.bl _ | exact Cl.bs _ | exact Cl.str _ | exact Cl.nils | exact Cl.nilp | exact Cl.rec _ | exact Cl.bat _ | exact Cl.recsV _ | exact Cl.strsV _ | exact Cl.intsV _ | exact Cl.req _ | exact Cl.rsp _ | exact Cl.reqA _ | exact Cl.rspA _ | exact Cl.batsV _ | exact Cl.prsV _ | exact Cl.atsV _ | exact Cl.entA _ _ | exact Cl.foundA _ | exact Cl.getB _ | exact Cl.encA _ | exact Cl.firstA _ | refine ClL.cons ?_ ?_ | refine Cl.tup ?_ | refine Cl.agg ?_ | exact ClO.RO _ _)) : Cl _) _, trivial⟩

theorem findL_cons (x : Nat × Bat) (l : List (Nat × Bat)) (f t : Int) : findL f t (x :: l) = match findR f t x.2.recs with
    | some x => some x
    | none => findL f t l := rfl
structure RcI (l : List Rec) (f t : Int) where
  j : Nat
  hj : j ≤ l.length
  h : findR f t l = findR f t (l.drop j)
structure FdI (p : List UInt8) (f t : Int) where
  at_ : Nat
  last : Int
  hat : at_ ≤ p.length
  h : findL f t (allP p 0 (-1)) = findL f t (allP p at_ last)

theorem tiFind {p : List UInt8} {l : List (Int × Int)} {t : Int} (hl : p.length ≤ 100000000) (hll : l.length ≤ 1000000) : CallOK Try.prog 67 [bs p, prsV l, .int .i64 t] [] 0 (Out (foundA (findL (lkT l t) t (allP p 0 (-1)))) [] 0) := by
  refine CallOK.fit (by decide) ?_
  refine callOK Try.call67 Try.func67 Try.ntmps67 rfl ?_
  conv => arg 4; whnf
  refine call0 (tiLkT hll) (ClL.cons (Cl.prsV _) (ClL.cons (Cl.int _ _) ClL.nil)) (by (repeat' (first | with_reducible assumption | exact ClL.nil | exact Cl.int _ _ | exact Cl.bool _ | exact Cl.bl _ | exact Cl.bs _ | exact Cl.str _ | exact Cl.nils | exact Cl.nilp | exact Cl.rec _ | exact Cl.bat _ | exact Cl.recsV _ | exact Cl.strsV _ | exact Cl.intsV _ | exact Cl.req _ | exact Cl.rsp _ | exact Cl.reqA _ | exact Cl.rspA _ | exact Cl.batsV _ | exact Cl.prsV _ | exact Cl.atsV _ | exact Cl.entA _ _ | exact Cl.foundA _ | exact Cl.getB _ | exact Cl.encA _ | exact Cl.firstA _ | refine ClL.cons ?_ ?_ | refine Cl.tup ?_ | refine Cl.agg ?_ | exact ClO.RO _ _))) ?_
  (conv => arg 4; whnf); repeat (refine ⟨rfl, ?_⟩; conv => arg 4; whnf)
  refine holds_out [] (batAll (p := p)) rfl trivial (ClL.cons (Cl.bs p) ClL.nil _).symm ?_
  conv => arg 4; whnf
  simp only [renL_u8s]
  refine callOK Try.call115 Try.func115 Try.ntmps115 rfl ?_
  conv => arg 4; whnf
  refine tri_loopG (ι := FdI p (lkT l t) t) (fun a => ⟨[(4, .int .i64 a.last), (3, .int .i64 a.at_), (0, .yld 5), (1, .ptr 4 0)], [(5, loopOf Try.f67 0 [(8, .ptr 3 0), (7, .ptr 2 0), (6, .ptr 1 0), (5, .ptr 0 0)] 42 .ready), (4, .cells [bs p]), (3, .cells [.int .i64 (lkT l t)]), (2, .cells [.bl false]), (1, .cells [.int .i64 0]), (0, .cells [.int .i64 t])], 6, 40⟩) (fun a => p.length - a.at_) ⟨0, -1, Nat.zero_le _, rfl⟩ ?_ ?_
  · exact WkG.of rfl rfl ⟨Le.refl _ _, Le.refl _ _, Le.refl _ _, Le.refl _ _, trivial⟩ ⟨⟨_, rfl, LeO.loop ⟨Le.refl _ _, Le.refl _ _, Le.refl _ _, Le.refl _ _, trivial⟩ rfl rfl rfl⟩, ⟨_, rfl, LeO.refl _ _⟩, ⟨_, rfl, LeO.refl _ _⟩, ⟨_, rfl, LeO.refl _ _⟩, ⟨_, rfl, LeO.refl _ _⟩, ⟨_, rfl, LeO.refl _ _⟩, trivial⟩ ⟨rfl, rfl, rfl, rfl, trivial⟩ ⟨⟨by decide, rfl⟩, ⟨by decide, ClO.cells (by (repeat' (first | with_reducible assumption | exact ClL.nil | exact Cl.int _ _ | exact Cl.bool _ | exact Cl.bl _ | exact Cl.bs _ | exact Cl.str _ | exact Cl.nils | exact Cl.nilp | exact Cl.rec _ | exact Cl.bat _ | exact Cl.recsV _ | exact Cl.strsV _ | exact Cl.intsV _ | exact Cl.req _ | exact Cl.rsp _ | exact Cl.reqA _ | exact Cl.rspA _ | exact Cl.batsV _ | exact Cl.prsV _ | exact Cl.atsV _ | exact Cl.entA _ _ | exact Cl.foundA _ | exact Cl.getB _ | exact Cl.encA _ | exact Cl.firstA _ | refine ClL.cons ?_ ?_ | refine Cl.tup ?_ | refine Cl.agg ?_ | exact ClO.RO _ _))) _⟩, ⟨by decide, rfl⟩, ⟨by decide, rfl⟩, ⟨by decide, rfl⟩, ⟨by decide, rfl⟩, trivial⟩
  rintro ⟨at_, last, hat, hh⟩
  dsimp only
  conv => arg 4; whnf
  refine ⟨fun hlt => ?_, fun hlt => ?_⟩
  · have hlt : at_ < p.length := by rw [u8s_length] at hlt; simp at hlt; omega
    (conv => arg 4; whnf); repeat (refine ⟨rfl, ?_⟩; conv => arg 4; whnf)
    (repeat (refine ⟨by first | (rw [u8s_length]; omega) | (simp only [u8s_length]; omega) | omega | decide, ?_⟩; conv => arg 4; whnf))
    refine holds_args (args' := [bs (p.drop at_)]) ⟨Le.of_eq (congrArg (AV.sl .none 0) (by rw [Int.toNat_natCast, u8s_drop])), trivial⟩ ?_
    refine call0 (batFirst' (p := p.drop at_) (by simp; omega)) (by (repeat' (first | with_reducible assumption | exact ClL.nil | exact Cl.int _ _ | exact Cl.bool _ | exact Cl.bl _ | exact Cl.bs _ | exact Cl.str _ | exact Cl.nils | exact Cl.nilp | exact Cl.rec _ | exact Cl.bat _ | exact Cl.recsV _ | exact Cl.strsV _ | exact Cl.intsV _ | exact Cl.req _ | exact Cl.rsp _ | exact Cl.reqA _ | exact Cl.rspA _ | exact Cl.batsV _ | exact Cl.prsV _ | exact Cl.atsV _ | exact Cl.entA _ _ | exact Cl.foundA _ | exact Cl.getB _ | exact Cl.encA _ | exact Cl.firstA _ | refine ClL.cons ?_ ?_ | refine Cl.tup ?_ | refine Cl.agg ?_ | exact ClO.RO _ _))) (Cl.firstA _) ?_
    (conv => arg 4; whnf); repeat (refine ⟨rfl, ?_⟩; conv => arg 4; whnf)
    refine ⟨fun hb => ?_, fun hb => ?_⟩
    · simp only [Bool.cond_true_left, Bool.cond_false_right, Bool.or_eq_true, Bool.and_eq_true, Bool.not_eq_true', decide_eq_true_eq, beq_iff_eq, bne_iff_ne, u8s_length, Bool.not_eq_true, gt_iff_lt, ge_iff_le] at hb
      have hno : allP p at_ last = [] := allP_no (by omega)
      rw [hno] at hh
      conv => arg 4; whnf
      refine fin_exit ?_
      show holds _ _ _ _
      conv => arg 4; whnf
      refine ret_in ?_
      show holds _ _ _ _
      conv => arg 4; whnf
      (conv => arg 4; whnf); repeat (refine ⟨rfl, ?_⟩; conv => arg 4; whnf)
      rw [hh]
      exact ⟨by decide, by (repeat' (first | with_reducible exact Le.refl _ _ | exact Le.bl | exact Le.lb | exact Le.nils | exact Le.nilsFull | exact Le.none | exact LeL.nil _ | refine LeL.cons ?_ ?_ | refine Le.tup ?_ | refine Le.agg ?_ | exact Le.refl _ _ | exact LeL.refl _ _)), trivial, (by (repeat' (first | with_reducible assumption | exact ClL.nil | exact Cl.int _ _ | exact Cl.bool _ | exact Cl.bl _ | exact Cl.bs _ | exact Cl.str _ | exact Cl.nils | exact Cl.nilp | exact Cl.rec _ | exact Cl.bat _ | exact Cl.recsV _ | exact Cl.strsV _ | exact Cl.intsV _ | exact Cl.req _ | exact Cl.rsp _ | exact Cl.reqA _ | exact Cl.rspA _ | exact Cl.batsV _ | exact Cl.prsV _ | exact Cl.atsV _ | exact Cl.entA _ _ | exact Cl.foundA _ | exact Cl.getB _ | exact Cl.encA _ | exact Cl.firstA _ | refine ClL.cons ?_ ?_ | refine Cl.tup ?_ | refine Cl.agg ?_ | exact ClO.RO _ _)) : Cl _) _, trivial⟩
    · rw [← Bool.not_eq_true] at hb; simp only [Bool.cond_true_left, Bool.cond_false_right, Bool.or_eq_true, Bool.and_eq_true, Bool.not_eq_true', decide_eq_true_eq, beq_iff_eq, bne_iff_ne, u8s_length, gt_iff_lt, ge_iff_le] at hb
      have hyes := allP_yes (p := p) (a := at_) (last := last) (by omega) (by omega)
      have hf := first_len (q := p.drop at_) (by omega)
      have hfl := hf.2.1
      rw [List.length_drop] at hfl
      have hw : IntKind.i64.wrap ((at_ : Int) + (firstN (p.drop at_) : Int)) = ((at_ + firstN (p.drop at_) : Nat) : Int) := by
        rw [IntKind.wrap_i64]; omega
      rw [hyes, findL_cons] at hh
      (conv => arg 4; whnf); repeat (refine ⟨rfl, ?_⟩; conv => arg 4; whnf)
      refine round_in ?_
      conv => arg 4; whnf
      refine tri_loopG (ι := RcI (firstB (p.drop at_)).recs (lkT l t) t) (fun a => ⟨[(23, .int .i64 a.j), (22, .int .i64 (recsL (firstB (p.drop at_)).recs).length), (21, recsV (firstB (p.drop at_)).recs), (8, .ptr 3 0), (7, .ptr 2 0), (6, .ptr 1 0), (5, .ptr 0 0)], [(6, .cells [.int .i64 (firstB (p.drop at_)).base, .int .i64 (firstB (p.drop at_)).last, .int .i64 (firstB (p.drop at_)).prod, .int .i64 (firstB (p.drop at_)).epoch, .int .i64 (firstB (p.drop at_)).seq, recsV (firstB (p.drop at_)).recs]), (5, loopOf Try.f67 0 [(8, .ptr 3 0), (7, .ptr 2 0), (6, .ptr 1 0), (5, .ptr 0 0)] 42 .busy), (4, .cells [bs p]), (3, .cells [.int .i64 (lkT l t)]), (2, .cells [.bl false]), (1, .cells [.int .i64 0]), (0, .cells [.int .i64 t])], 8, ⟨42, some 5⟩⟩) (fun a => (firstB (p.drop at_)).recs.length - a.j) ⟨0, Nat.zero_le _, rfl⟩ ?_ ?_
      · exact WkG.of rfl rfl ⟨Le.refl _ _, Le.refl _ _, Le.refl _ _, Le.refl _ _, Le.refl _ _, Le.refl _ _, Le.refl _ _, trivial⟩ ⟨⟨_, rfl, LeO.refl _ _⟩, ⟨_, rfl, LeO.refl _ _⟩, ⟨_, rfl, LeO.refl _ _⟩, ⟨_, rfl, LeO.refl _ _⟩, ⟨_, rfl, LeO.refl _ _⟩, ⟨_, rfl, LeO.refl _ _⟩, ⟨_, rfl, LeO.refl _ _⟩, trivial⟩ ⟨rfl, rfl, Cl.recsV _ _, rfl, rfl, rfl, rfl, trivial⟩ ⟨⟨by decide, ClO.cells (by (repeat' (first | with_reducible assumption | exact ClL.nil | exact Cl.int _ _ | exact Cl.bool _ | exact Cl.bl _ | exact Cl.bs _ | exact Cl.str _ | exact Cl.nils | exact Cl.nilp | exact Cl.rec _ | exact Cl.bat _ | exact Cl.recsV _ | exact Cl.strsV _ | exact Cl.intsV _ | exact Cl.req _ | exact Cl.rsp _ | exact Cl.reqA _ | exact Cl.rspA _ | exact Cl.batsV _ | exact Cl.prsV _ | exact Cl.atsV _ | exact Cl.entA _ _ | exact Cl.foundA _ | exact Cl.getB _ | exact Cl.encA _ | exact Cl.firstA _ | refine ClL.cons ?_ ?_ | refine Cl.tup ?_ | refine Cl.agg ?_ | exact ClO.RO _ _))) _⟩, ⟨by decide, rfl⟩, ⟨by decide, ClO.cells (by (repeat' (first | with_reducible assumption | exact ClL.nil | exact Cl.int _ _ | exact Cl.bool _ | exact Cl.bl _ | exact Cl.bs _ | exact Cl.str _ | exact Cl.nils | exact Cl.nilp | exact Cl.rec _ | exact Cl.bat _ | exact Cl.recsV _ | exact Cl.strsV _ | exact Cl.intsV _ | exact Cl.req _ | exact Cl.rsp _ | exact Cl.reqA _ | exact Cl.rspA _ | exact Cl.batsV _ | exact Cl.prsV _ | exact Cl.atsV _ | exact Cl.entA _ _ | exact Cl.foundA _ | exact Cl.getB _ | exact Cl.encA _ | exact Cl.firstA _ | refine ClL.cons ?_ ?_ | refine Cl.tup ?_ | refine Cl.agg ?_ | exact ClO.RO _ _))) _⟩, ⟨by decide, rfl⟩, ⟨by decide, rfl⟩, ⟨by decide, rfl⟩, ⟨by decide, rfl⟩, trivial⟩
      rintro ⟨j, hj, hr⟩
      dsimp only
      conv => arg 4; whnf
      refine ⟨fun h => ?_, fun h => ?_⟩
      · have h : j < (firstB (p.drop at_)).recs.length := by rw [recs_length] at h; simp at h; omega
        obtain ⟨x, hx⟩ : ∃ x, (firstB (p.drop at_)).recs[j]? = some x := ⟨_, List.getElem?_eq_getElem h⟩
        have hdr : (firstB (p.drop at_)).recs.drop j = x :: (firstB (p.drop at_)).recs.drop (j + 1) := by
          rw [List.drop_eq_getElem_cons h]
          simp [List.getElem?_eq_getElem h] at hx
          rw [hx]
        rw [hdr, findR] at hr
        conv => arg 4; whnf
        refine ⟨_, ⟨by omega, recs_get hx⟩, ?_⟩
        (conv => arg 4; whnf); repeat (refine ⟨rfl, ?_⟩; conv => arg 4; whnf)
        refine ⟨fun hc => ?_, fun hc => ?_⟩
        · simp only [Bool.cond_true_left, Bool.cond_false_right, Bool.or_eq_true, Bool.and_eq_true, Bool.not_eq_true', decide_eq_true_eq, beq_iff_eq, bne_iff_ne, u8s_length, Bool.not_eq_true, gt_iff_lt, ge_iff_le] at hc
          rw [if_pos (by omega)] at hr
          rw [hr] at hh
          (conv => arg 4; whnf); repeat (refine ⟨rfl, ?_⟩; conv => arg 4; whnf)
          refine fin_exit ?_
          show holds _ _ _ _
          conv => arg 4; whnf
          refine ⟨fun _ => ?_, fun h => absurd h (by first | (simp; done) | (simp [u8s]; done))⟩
          conv => arg 4; whnf
          refine fin_exit ?_
          show holds _ _ _ _
          conv => arg 4; whnf
          refine ret_in ?_
          show holds _ _ _ _
          conv => arg 4; whnf
          (conv => arg 4; whnf); repeat (refine ⟨rfl, ?_⟩; conv => arg 4; whnf)
          rw [hh]
          exact ⟨by decide, by (repeat' (first | with_reducible exact Le.refl _ _ | exact Le.bl | exact Le.lb | exact Le.nils | exact Le.nilsFull | exact Le.none | exact LeL.nil _ | refine LeL.cons ?_ ?_ | refine Le.tup ?_ | refine Le.agg ?_ | exact Le.refl _ _ | exact LeL.refl _ _)), trivial, (by (repeat' (first | with_reducible assumption | exact ClL.nil | exact Cl.int _ _ | exact Cl.bool _ | exact Cl.bl _ | exact Cl.bs _ | exact Cl.str _ | exact Cl.nils | exact Cl.nilp | exact Cl.rec _ | exact Cl.bat _ | exact Cl.recsV _ | exact Cl.strsV _ | exact Cl.intsV _ | exact Cl.req _ | exact Cl.rsp _ | exact Cl.reqA _ | exact Cl.rspA _ | exact Cl.batsV _ | exact Cl.prsV _ | exact Cl.atsV _ | exact Cl.entA _ _ | exact Cl.foundA _ | exact Cl.getB _ | exact Cl.encA _ | exact Cl.firstA _ | refine ClL.cons ?_ ?_ | refine Cl.tup ?_ | refine Cl.agg ?_ | exact ClO.RO _ _)) : Cl _) _, trivial⟩
        · rw [← Bool.not_eq_true] at hc; simp only [Bool.cond_true_left, Bool.cond_false_right, Bool.or_eq_true, Bool.and_eq_true, Bool.not_eq_true', decide_eq_true_eq, beq_iff_eq, bne_iff_ne, u8s_length, gt_iff_lt, ge_iff_le] at hc
          rw [if_neg (by omega)] at hr
          (conv => arg 4; whnf); repeat (refine ⟨rfl, ?_⟩; conv => arg 4; whnf)
          exact ⟨⟨j + 1, by omega, hr⟩, by show (firstB (p.drop at_)).recs.length - (j + 1) < (firstB (p.drop at_)).recs.length - j; omega, WkG.of rfl rfl ⟨Le.of_eq (succ_i64 (by have := first_few (p.drop at_); omega)), Le.refl _ _, Le.refl _ _, Le.refl _ _, Le.refl _ _, Le.refl _ _, Le.refl _ _, trivial⟩ ⟨⟨_, rfl, LeO.refl _ _⟩, ⟨_, rfl, LeO.refl _ _⟩, ⟨_, rfl, LeO.refl _ _⟩, ⟨_, rfl, LeO.refl _ _⟩, ⟨_, rfl, LeO.refl _ _⟩, ⟨_, rfl, LeO.refl _ _⟩, ⟨_, rfl, LeO.refl _ _⟩, trivial⟩ ⟨rfl, rfl, Cl.recsV _ _, rfl, rfl, rfl, rfl, trivial⟩ ⟨⟨by decide, ClO.cells (by (repeat' (first | with_reducible assumption | exact ClL.nil | exact Cl.int _ _ | exact Cl.bool _ | exact Cl.bl _ | exact Cl.bs _ | exact Cl.str _ | exact Cl.nils | exact Cl.nilp | exact Cl.rec _ | exact Cl.bat _ | exact Cl.recsV _ | exact Cl.strsV _ | exact Cl.intsV _ | exact Cl.req _ | exact Cl.rsp _ | exact Cl.reqA _ | exact Cl.rspA _ | exact Cl.batsV _ | exact Cl.prsV _ | exact Cl.atsV _ | exact Cl.entA _ _ | exact Cl.foundA _ | exact Cl.getB _ | exact Cl.encA _ | exact Cl.firstA _ | refine ClL.cons ?_ ?_ | refine Cl.tup ?_ | refine Cl.agg ?_ | exact ClO.RO _ _))) _⟩, ⟨by decide, rfl⟩, ⟨by decide, ClO.cells (by (repeat' (first | with_reducible assumption | exact ClL.nil | exact Cl.int _ _ | exact Cl.bool _ | exact Cl.bl _ | exact Cl.bs _ | exact Cl.str _ | exact Cl.nils | exact Cl.nilp | exact Cl.rec _ | exact Cl.bat _ | exact Cl.recsV _ | exact Cl.strsV _ | exact Cl.intsV _ | exact Cl.req _ | exact Cl.rsp _ | exact Cl.reqA _ | exact Cl.rspA _ | exact Cl.batsV _ | exact Cl.prsV _ | exact Cl.atsV _ | exact Cl.entA _ _ | exact Cl.foundA _ | exact Cl.getB _ | exact Cl.encA _ | exact Cl.firstA _ | refine ClL.cons ?_ ?_ | refine Cl.tup ?_ | refine Cl.agg ?_ | exact ClO.RO _ _))) _⟩, ⟨by decide, rfl⟩, ⟨by decide, rfl⟩, ⟨by decide, rfl⟩, ⟨by decide, rfl⟩, trivial⟩⟩
      · have h : j = (firstB (p.drop at_)).recs.length := by rw [recs_length] at h; simp at h; omega
        rw [h, List.drop_length, findR] at hr
        rw [hr] at hh
        conv => arg 4; whnf
        refine fin_exit ?_
        show holds _ _ _ _
        conv => arg 4; whnf
        refine ⟨fun h => absurd h (by first | (simp; done) | (simp [u8s]; done)), fun _ => ?_⟩
        conv => arg 4; whnf
        exact ⟨⟨at_ + firstN (p.drop at_), (firstB (p.drop at_)).last, by omega, hh⟩, by show p.length - (at_ + firstN (p.drop at_)) < p.length - at_; omega, WkG.of rfl rfl ⟨Le.refl _ _, Le.of_eq (congrArg _ hw), Le.refl _ _, Le.refl _ _, trivial⟩ ⟨⟨_, rfl, LeO.loop ⟨Le.refl _ _, Le.refl _ _, Le.refl _ _, Le.refl _ _, trivial⟩ rfl rfl rfl⟩, ⟨_, rfl, LeO.refl _ _⟩, ⟨_, rfl, LeO.refl _ _⟩, ⟨_, rfl, LeO.refl _ _⟩, ⟨_, rfl, LeO.refl _ _⟩, ⟨_, rfl, LeO.refl _ _⟩, trivial⟩ ⟨rfl, rfl, rfl, rfl, trivial⟩ ⟨⟨by decide, rfl⟩, ⟨by decide, ClO.cells (by (repeat' (first | with_reducible assumption | exact ClL.nil | exact Cl.int _ _ | exact Cl.bool _ | exact Cl.bl _ | exact Cl.bs _ | exact Cl.str _ | exact Cl.nils | exact Cl.nilp | exact Cl.rec _ | exact Cl.bat _ | exact Cl.recsV _ | exact Cl.strsV _ | exact Cl.intsV _ | exact Cl.req _ | exact Cl.rsp _ | exact Cl.reqA _ | exact Cl.rspA _ | exact Cl.batsV _ | exact Cl.prsV _ | exact Cl.atsV _ | exact Cl.entA _ _ | exact Cl.foundA _ | exact Cl.getB _ | exact Cl.encA _ | exact Cl.firstA _ | refine ClL.cons ?_ ?_ | refine Cl.tup ?_ | refine Cl.agg ?_ | exact ClO.RO _ _))) _⟩, ⟨by decide, rfl⟩, ⟨by decide, rfl⟩, ⟨by decide, rfl⟩, ⟨by decide, rfl⟩, trivial⟩⟩
  · have hlt : at_ = p.length := by rw [u8s_length] at hlt; simp at hlt; omega
    have hno : allP p at_ last = [] := allP_end (by omega)
    rw [hno] at hh
    conv => arg 4; whnf
    refine fin_exit ?_
    show holds _ _ _ _
    conv => arg 4; whnf
    refine ret_in ?_
    show holds _ _ _ _
    conv => arg 4; whnf
    (conv => arg 4; whnf); repeat (refine ⟨rfl, ?_⟩; conv => arg 4; whnf)
    rw [hh]
    exact ⟨by decide, by (repeat' (first | with_reducible exact Le.refl _ _ | exact Le.bl | exact Le.lb | exact Le.nils | exact Le.nilsFull | exact Le.none | exact LeL.nil _ | refine LeL.cons ?_ ?_ | refine Le.tup ?_ | refine Le.agg ?_ | exact Le.refl _ _ | exact LeL.refl _ _)), trivial, (by (repeat' (first | with_reducible assumption | exact ClL.nil | exact Cl.int _ _ | exact Cl.bool _ | exact Cl.bl _ | exact Cl.bs _ | exact Cl.str _ | exact Cl.nils | exact Cl.nilp | exact Cl.rec _ | exact Cl.bat _ | exact Cl.recsV _ | exact Cl.strsV _ | exact Cl.intsV _ | exact Cl.req _ | exact Cl.rsp _ | exact Cl.reqA _ | exact Cl.rspA _ | exact Cl.batsV _ | exact Cl.prsV _ | exact Cl.atsV _ | exact Cl.entA _ _ | exact Cl.foundA _ | exact Cl.getB _ | exact Cl.encA _ | exact Cl.firstA _ | refine ClL.cons ?_ ?_ | refine Cl.tup ?_ | refine Cl.agg ?_ | exact ClO.RO _ _)) : Cl _) _, trivial⟩

end Go.Proofs.Ytejocegoockacaa.Ix

namespace Go.Proofs.Ytejocegoockacaa.Ix
set_option maxRecDepth 100000
set_option maxHeartbeats 80000000
open Go.Sym

open Classical in
noncomputable def decL (tm : Bool) (p : List UInt8) : List (Int × Int) := if DecE tm p then entD p else []
open Classical in
noncomputable def decC (tm : Bool) (p : List UInt8) : Int := if DecE tm p then 0 else 2
noncomputable def decA (tm : Bool) (p : List UInt8) : AV := .tup [prsV (decL tm p), .int .i64 (decC tm p)]
theorem decA_yes {tm : Bool} {p : List UInt8} (h : DecE tm p) : decA tm p = .tup [prsV (entD p), .int .i64 0] := by rw [decA, decL, decC, if_pos h, if_pos h]
theorem decA_no {tm : Bool} {p : List UInt8} (h : ¬ DecE tm p) : decA tm p = .tup [prsV [], .int .i64 2] := by rw [decA, decL, decC, if_neg h, if_neg h]
theorem Cl.decA (tm : Bool) (p : List UInt8) : Cl (decA tm p) := Cl.tup (ClL.cons (Cl.prsV _) (ClL.cons (Cl.int _ _) ClL.nil))
theorem decL_len (tm : Bool) (p : List UInt8) : (decL tm p).length ≤ p.length := by
  unfold decL
  split
  · rw [entD, entN_len]; omega
  · simp

theorem fits8 {n : Int} (h : 0 ≤ n) : Fits n 8 := ⟨h, by decide, by decide, fun h => by omega⟩
theorem cut_wob {nx s : Nat} (l : List UInt8) : renO (cut 3 nx) (wob 2 s 0 (u8s l) [.bool false]) = wob 2 s 0 (u8s l) [.bool false] := by
  simp only [renO, renL, renL_u8s, ren, renP, cut_lt (show 2 < 3 by decide)]
def Ints (l : List (Int × Int)) : Prop := ∀ x ∈ l, I64 x.1 ∧ I64 x.2

structure EnI (tm : Bool) (l : List (Int × Int)) where
  i : Nat
  s : Nat
  y : Int × Int
  hi : i ≤ l.length
  hy : (if tm then 0 else -1) ≤ y.1 ∧ -1 ≤ y.2
  h : OkE tm (st0 tm) l ↔ OkE tm y (l.drop i)

theorem entB_take {l : List (Int × Int)} {i : Nat} {x : Int × Int} (h : l[i]? = some x) : entB (l.take i) ++ fixed x.1.toNat 8 ++ fixed x.2.toNat 8 = entB (l.take (i + 1)) := by
  have : l.take (i + 1) = l.take i ++ [x] := by rw [List.take_add_one, h]; rfl
  rw [this, entB_snoc, List.append_assoc]
theorem drop_get {α : Type} {l : List α} {i : Nat} {x : α} (h : l[i]? = some x) : l.drop i = x :: l.drop (i + 1) := by
  have hi : i < l.length := by
    rcases Nat.lt_or_ge i l.length with h' | h'
    · exact h'
    · simp [List.getElem?_eq_none h'] at h
  rw [List.drop_eq_getElem_cons hi]
  simp [List.getElem?_eq_getElem hi] at h
  rw [h]

theorem ixEnc {l : List (Int × Int)} (hl : l.length ≤ 1000000) (hint : Ints l) : CallOK Try.prog 69 [prsV l] [] 0 (Out (entA false l) [] 0) := by
  refine CallOK.fit (by decide) ?_
  refine callOK Try.call69 Try.func69 Try.ntmps69 rfl ?_
  conv => arg 4; whnf
  refine tri_loopG (ι := EnI false l) (fun a => ⟨[(15, .int .i64 a.i), (14, .int .i64 (prsL l).length), (13, prsV l), (5, .ptr 1 0), (4, .ptr 0 0)], [(2, .tip a.s), (1, .cells [.int .i64 a.y.1, .int .i64 a.y.2]), (0, wob 2 a.s 0 (u8s (entB (l.take a.i))) [.bool false])], 3, 46⟩) (fun a => l.length - a.i) ⟨0, 0, (-1, -1), Nat.zero_le _, by decide, Iff.rfl⟩ (WkG.tok rfl rfl ⟨Le.refl _ _, Le.refl _ _, Le.refl _ _, Le.refl _ _, Le.refl _ _, trivial⟩ ⟨⟨_, rfl, rfl⟩, ⟨_, rfl, LeO.refl _ _⟩, ⟨_, rfl, LeL.cons (Le.nilsTok rfl) (LeL.cons Le.bl (LeL.nil _))⟩, trivial⟩ ⟨rfl, rfl, Cl.prsV _ _, rfl, rfl, trivial⟩ ⟨⟨by decide, rfl⟩, ⟨by decide, rfl⟩, ⟨by decide, cut_wob _⟩, trivial⟩) ?_
  rintro ⟨i, s, y, hi, hy, hh⟩
  dsimp only
  have hbl := entB_len (l.take i)
  rw [List.length_take] at hbl
  conv => arg 4; whnf
  refine ⟨fun h => ?_, fun h => ?_⟩
  · have h : i < l.length := by rw [prs_length] at h; simp at h; omega
    obtain ⟨x, hx⟩ : ∃ x, l[i]? = some x := ⟨_, List.getElem?_eq_getElem h⟩
    have hxi := hint x (List.mem_of_getElem? hx)
    rw [drop_get hx, OkE] at hh
    (conv => arg 4; whnf); repeat (refine ⟨rfl, ?_⟩; conv => arg 4; whnf)
    refine ⟨prA x, ⟨by omega, prs_get hx⟩, ?_⟩
    (conv => arg 4; whnf); repeat (refine ⟨rfl, ?_⟩; conv => arg 4; whnf)
    refine ⟨fun hc => ?_, fun hc => ?_⟩
    · simp only [Bool.cond_true_left, Bool.cond_false_right, Bool.or_eq_true, Bool.and_eq_true, Bool.not_eq_true', decide_eq_true_eq, beq_iff_eq, bne_iff_ne, u8s_length, Bool.not_eq_true, gt_iff_lt, ge_iff_le] at hc
      have hn : ¬ OkE false (st0 false) l := fun hk => by
        have := hh.1 hk
        simp only [Bool.false_eq_true, false_and, or_false] at this
        omega
      rw [entA_no hn]
      (conv => arg 4; whnf); repeat (refine ⟨rfl, ?_⟩; conv => arg 4; whnf)
      refine fin_ret ?_
      show holds _ _ _ _
      conv => arg 4; whnf
      exact ⟨by decide, by (repeat' (first | with_reducible exact Le.refl _ _ | exact Le.bl | exact Le.lb | exact Le.nils | exact Le.nilsFull | exact Le.none | exact LeL.nil _ | refine LeL.cons ?_ ?_ | refine Le.tup ?_ | refine Le.agg ?_ | exact Le.refl _ _ | exact LeL.refl _ _)), trivial, (by (repeat' (first | with_reducible assumption | exact ClL.nil | exact Cl.int _ _ | exact Cl.bool _ | exact Cl.bl _ | exact Cl.bs _ | exact Cl.str _ | exact Cl.nils | exact Cl.nilp | exact Cl.rec _ | exact Cl.bat _ | exact Cl.recsV _ | exact Cl.strsV _ | exact Cl.intsV _ | exact Cl.req _ | exact Cl.rsp _ | exact Cl.reqA _ | exact Cl.rspA _ | exact Cl.batsV _ | exact Cl.prsV _ | exact Cl.atsV _ | exact Cl.entA _ _ | exact Cl.foundA _ | exact Cl.getB _ | exact Cl.encA _ | exact Cl.firstA _ | refine ClL.cons ?_ ?_ | refine Cl.tup ?_ | refine Cl.agg ?_ | exact ClO.RO _ _)) : Cl _) _, trivial⟩
    · rw [← Bool.not_eq_true] at hc; simp only [Bool.cond_true_left, Bool.cond_false_right, Bool.or_eq_true, Bool.and_eq_true, Bool.not_eq_true', decide_eq_true_eq, beq_iff_eq, bne_iff_ne, u8s_length, gt_iff_lt, ge_iff_le] at hc
      have hx2 : 0 ≤ x.1 ∧ 0 ≤ x.2 := by
        simp only [Bool.false_eq_true, if_false] at hy
        omega
      (conv => arg 4; whnf); repeat (refine ⟨rfl, ?_⟩; conv => arg 4; whnf)
      refine callWE 0 2 (wFixedT (n := x.1) (size := 8) hxi.1 (fits8 hx2.1) (by omega)) (by decide) (by decide) rfl rfl (ClL.u8s _) (ClL.cons (Cl.bool _) ClL.nil) (ClL.u8s _) (ClL.cons (Cl.bool _) ClL.nil) rfl rfl fun s1 => ?_
      (conv => arg 4; whnf); repeat (refine ⟨rfl, ?_⟩; conv => arg 4; whnf)
      refine callWE 0 2 (wFixedT (n := x.2) (size := 8) hxi.2 (fits8 hx2.2) (by simp only [List.length_append, fixed_len]; omega)) (by decide) (by decide) rfl rfl (ClL.u8s _) (ClL.cons (Cl.bool _) ClL.nil) (ClL.u8s _) (ClL.cons (Cl.bool _) ClL.nil) rfl rfl fun s2 => ?_
      (conv => arg 4; whnf); repeat (refine ⟨rfl, ?_⟩; conv => arg 4; whnf)
      exact ⟨⟨i + 1, s2, x, by omega, ⟨by simp only [Bool.false_eq_true, if_false]; omega, by omega⟩, hh.trans ⟨fun hk => hk.2.2, fun hk => ⟨by omega, by omega, hk⟩⟩⟩, by show l.length - (i + 1) < l.length - i; omega, WkG.of rfl rfl ⟨Le.of_eq (succ_i64 (by omega)), Le.refl _ _, Le.refl _ _, Le.refl _ _, Le.refl _ _, trivial⟩ ⟨⟨_, rfl, LeO.refl _ _⟩, ⟨_, rfl, LeO.refl _ _⟩, ⟨_, rfl, LeL.cons (Le.of_eq (congrArg (fun b => AV.sl (.tok 2 s2) 0 (u8s b)) (entB_take hx))) (LeL.refl _ _)⟩, trivial⟩ ⟨rfl, rfl, Cl.prsV _ _, rfl, rfl, trivial⟩ ⟨⟨by decide, rfl⟩, ⟨by decide, rfl⟩, ⟨by decide, cut_wob _⟩, trivial⟩⟩
  · have h : i = l.length := by rw [prs_length] at h; simp at h; omega
    subst h
    rw [List.drop_length] at hh
    have hk : OkE false (st0 false) l := hh.2 trivial
    rw [entA_yes hk]
    conv => arg 4; whnf
    refine fin_exit ?_
    show holds _ _ _ _
    conv => arg 4; whnf
    refine callWD 0 2 (wDoneT (by omega)) (by decide) (by decide) rfl rfl (ClL.u8s _) (ClL.cons (Cl.bool _) ClL.nil) (ClL.u8s _) (ClL.cons (Cl.bool _) ClL.nil) (ClL.u8s _) (ClL.cons (Cl.bl _) ClL.nil) rfl fun s7 => ?_
    rw [List.take_length]
    (conv => arg 4; whnf); repeat (refine ⟨rfl, ?_⟩; conv => arg 4; whnf)
    exact ⟨by decide, Le.tup (LeL.cons Le.none (LeL.refl _ _)), trivial, Cl.tup (ClL.cons (Cl.bs _) (ClL.cons (Cl.int _ _) ClL.nil)) _, trivial⟩
theorem tiEnc {l : List (Int × Int)} (hl : l.length ≤ 1000000) (hint : Ints l) : CallOK Try.prog 64 [prsV l] [] 0 (Out (entA true l) [] 0) := by
  refine CallOK.fit (by decide) ?_
  refine callOK Try.call64 Try.func64 Try.ntmps64 rfl ?_
  conv => arg 4; whnf
  refine tri_loopG (ι := EnI true l) (fun a => ⟨[(15, .int .i64 a.i), (14, .int .i64 (prsL l).length), (13, prsV l), (5, .ptr 1 0), (4, .ptr 0 0)], [(2, .tip a.s), (1, .cells [.int .i64 a.y.1, .int .i64 a.y.2]), (0, wob 2 a.s 0 (u8s (entB (l.take a.i))) [.bool false])], 3, 46⟩) (fun a => l.length - a.i) ⟨0, 0, (0, -1), Nat.zero_le _, by decide, Iff.rfl⟩ (WkG.tok rfl rfl ⟨Le.refl _ _, Le.refl _ _, Le.refl _ _, Le.refl _ _, Le.refl _ _, trivial⟩ ⟨⟨_, rfl, rfl⟩, ⟨_, rfl, LeO.refl _ _⟩, ⟨_, rfl, LeL.cons (Le.nilsTok rfl) (LeL.cons Le.bl (LeL.nil _))⟩, trivial⟩ ⟨rfl, rfl, Cl.prsV _ _, rfl, rfl, trivial⟩ ⟨⟨by decide, rfl⟩, ⟨by decide, rfl⟩, ⟨by decide, cut_wob _⟩, trivial⟩) ?_
  rintro ⟨i, s, y, hi, hy, hh⟩
  dsimp only
  have hbl := entB_len (l.take i)
  rw [List.length_take] at hbl
  conv => arg 4; whnf
  refine ⟨fun h => ?_, fun h => ?_⟩
  · have h : i < l.length := by rw [prs_length] at h; simp at h; omega
    obtain ⟨x, hx⟩ : ∃ x, l[i]? = some x := ⟨_, List.getElem?_eq_getElem h⟩
    have hxi := hint x (List.mem_of_getElem? hx)
    rw [drop_get hx, OkE] at hh
    (conv => arg 4; whnf); repeat (refine ⟨rfl, ?_⟩; conv => arg 4; whnf)
    refine ⟨prA x, ⟨by omega, prs_get hx⟩, ?_⟩
    (conv => arg 4; whnf); repeat (refine ⟨rfl, ?_⟩; conv => arg 4; whnf)
    refine ⟨fun hc => ?_, fun hc => ?_⟩
    · simp only [Bool.cond_true_left, Bool.cond_false_right, Bool.or_eq_true, Bool.and_eq_true, Bool.not_eq_true', decide_eq_true_eq, beq_iff_eq, bne_iff_ne, u8s_length, Bool.not_eq_true, gt_iff_lt, ge_iff_le] at hc
      have hn : ¬ OkE true (st0 true) l := fun hk => by
        have := hh.1 hk
        simp only [true_and] at this
        omega
      rw [entA_no hn]
      (conv => arg 4; whnf); repeat (refine ⟨rfl, ?_⟩; conv => arg 4; whnf)
      refine fin_ret ?_
      show holds _ _ _ _
      conv => arg 4; whnf
      exact ⟨by decide, by (repeat' (first | with_reducible exact Le.refl _ _ | exact Le.bl | exact Le.lb | exact Le.nils | exact Le.nilsFull | exact Le.none | exact LeL.nil _ | refine LeL.cons ?_ ?_ | refine Le.tup ?_ | refine Le.agg ?_ | exact Le.refl _ _ | exact LeL.refl _ _)), trivial, (by (repeat' (first | with_reducible assumption | exact ClL.nil | exact Cl.int _ _ | exact Cl.bool _ | exact Cl.bl _ | exact Cl.bs _ | exact Cl.str _ | exact Cl.nils | exact Cl.nilp | exact Cl.rec _ | exact Cl.bat _ | exact Cl.recsV _ | exact Cl.strsV _ | exact Cl.intsV _ | exact Cl.req _ | exact Cl.rsp _ | exact Cl.reqA _ | exact Cl.rspA _ | exact Cl.batsV _ | exact Cl.prsV _ | exact Cl.atsV _ | exact Cl.entA _ _ | exact Cl.foundA _ | exact Cl.getB _ | exact Cl.encA _ | exact Cl.firstA _ | refine ClL.cons ?_ ?_ | refine Cl.tup ?_ | refine Cl.agg ?_ | exact ClO.RO _ _)) : Cl _) _, trivial⟩
    · rw [← Bool.not_eq_true] at hc; simp only [Bool.cond_true_left, Bool.cond_false_right, Bool.or_eq_true, Bool.and_eq_true, Bool.not_eq_true', decide_eq_true_eq, beq_iff_eq, bne_iff_ne, u8s_length, gt_iff_lt, ge_iff_le] at hc
      have hx2 : 0 ≤ x.1 ∧ 0 ≤ x.2 := by
        simp only [if_true] at hy
        omega
      (conv => arg 4; whnf); repeat (refine ⟨rfl, ?_⟩; conv => arg 4; whnf)
      refine callWE 0 2 (wFixedT (n := x.1) (size := 8) hxi.1 (fits8 hx2.1) (by omega)) (by decide) (by decide) rfl rfl (ClL.u8s _) (ClL.cons (Cl.bool _) ClL.nil) (ClL.u8s _) (ClL.cons (Cl.bool _) ClL.nil) rfl rfl fun s1 => ?_
      (conv => arg 4; whnf); repeat (refine ⟨rfl, ?_⟩; conv => arg 4; whnf)
      refine callWE 0 2 (wFixedT (n := x.2) (size := 8) hxi.2 (fits8 hx2.2) (by simp only [List.length_append, fixed_len]; omega)) (by decide) (by decide) rfl rfl (ClL.u8s _) (ClL.cons (Cl.bool _) ClL.nil) (ClL.u8s _) (ClL.cons (Cl.bool _) ClL.nil) rfl rfl fun s2 => ?_
      (conv => arg 4; whnf); repeat (refine ⟨rfl, ?_⟩; conv => arg 4; whnf)
      exact ⟨⟨i + 1, s2, x, by omega, ⟨by simp only [if_true]; omega, by omega⟩, hh.trans ⟨fun hk => hk.2.2, fun hk => ⟨by simp only [true_and]; omega, by omega, hk⟩⟩⟩, by show l.length - (i + 1) < l.length - i; omega, WkG.of rfl rfl ⟨Le.of_eq (succ_i64 (by omega)), Le.refl _ _, Le.refl _ _, Le.refl _ _, Le.refl _ _, trivial⟩ ⟨⟨_, rfl, LeO.refl _ _⟩, ⟨_, rfl, LeO.refl _ _⟩, ⟨_, rfl, LeL.cons (Le.of_eq (congrArg (fun b => AV.sl (.tok 2 s2) 0 (u8s b)) (entB_take hx))) (LeL.refl _ _)⟩, trivial⟩ ⟨rfl, rfl, Cl.prsV _ _, rfl, rfl, trivial⟩ ⟨⟨by decide, rfl⟩, ⟨by decide, rfl⟩, ⟨by decide, cut_wob _⟩, trivial⟩⟩
  · have h : i = l.length := by rw [prs_length] at h; simp at h; omega
    subst h
    rw [List.drop_length] at hh
    have hk : OkE true (st0 true) l := hh.2 trivial
    rw [entA_yes hk]
    conv => arg 4; whnf
    refine fin_exit ?_
    show holds _ _ _ _
    conv => arg 4; whnf
    refine callWD 0 2 (wDoneT (by omega)) (by decide) (by decide) rfl rfl (ClL.u8s _) (ClL.cons (Cl.bool _) ClL.nil) (ClL.u8s _) (ClL.cons (Cl.bool _) ClL.nil) (ClL.u8s _) (ClL.cons (Cl.bl _) ClL.nil) rfl fun s7 => ?_
    rw [List.take_length]
    (conv => arg 4; whnf); repeat (refine ⟨rfl, ?_⟩; conv => arg 4; whnf)
    exact ⟨by decide, Le.tup (LeL.cons Le.none (LeL.refl _ _)), trivial, Cl.tup (ClL.cons (Cl.bs _) (ClL.cons (Cl.int _ _) ClL.nil)) _, trivial⟩
end Go.Proofs.Ytejocegoockacaa.Ix

namespace Go.Proofs.Ytejocegoockacaa.Ix
set_option maxRecDepth 100000
set_option maxHeartbeats 80000000
open Go.Sym

structure EnJ (l : List (Int × Int)) where
  i : Nat
  s : Nat
  y : Int × Int
  hi : i ≤ l.length
  hp : i = 0 ∧ y = (-1, -1) ∨ ∃ k, i = k + 1 ∧ l[k]? = some y ∧ 0 ≤ y.1 ∧ 0 ≤ y.2
  h : OkE false (st0 false) l ↔ OkE false y (l.drop i)

theorem refEncE {l : List (Int × Int)} (hl : l.length ≤ 1000000) (hint : Ints l) : CallOK Try.prog 71 [prsV l, .bl false] [] 0 (Out (entA false l) [] 0) := by
  refine CallOK.fit (by decide) ?_
  refine callOK Try.call71 Try.func71 Try.ntmps71 rfl ?_
  conv => arg 4; whnf
  refine tri_loopG (ι := EnJ l) (fun a => ⟨[(7, .int .i64 a.i), (6, .sl (.tok 0 a.s) 0 (u8s (entB (l.take a.i)))), (0, prsV l), (1, .bl false)], [(0, .tip a.s)], 1, 94⟩) (fun a => l.length - a.i) ⟨0, 0, (-1, -1), Nat.zero_le _, .inl ⟨rfl, rfl⟩, Iff.rfl⟩ (WkG.tok rfl rfl ⟨Le.refl _ _, Le.nilsTok rfl, Le.refl _ _, Le.refl _ _, trivial⟩ ⟨⟨_, rfl, rfl⟩, trivial⟩ ⟨rfl, rfl, Cl.prsV _ _, rfl, trivial⟩ ⟨⟨by decide, rfl⟩, trivial⟩) ?_
  rintro ⟨i, s, y, hi, hp, hh⟩
  dsimp only
  have hbl := entB_len (l.take i)
  rw [List.length_take] at hbl
  conv => arg 4; whnf
  refine ⟨fun h => ?_, fun h => ?_⟩
  · have h : i < l.length := by rw [prs_length] at h; simp at h; omega
    obtain ⟨x, hx⟩ : ∃ x, l[i]? = some x := ⟨_, List.getElem?_eq_getElem h⟩
    have hxi := hint x (List.mem_of_getElem? hx)
    rw [drop_get hx, OkE] at hh
    (conv => arg 4; whnf); repeat (refine ⟨rfl, ?_⟩; conv => arg 4; whnf)
    refine ⟨prA x, ⟨by omega, prs_get hx⟩, ?_⟩
    (conv => arg 4; whnf); repeat (refine ⟨rfl, ?_⟩; conv => arg 4; whnf)
    simp only [Bool.false_eq_true, false_and, or_false] at hh
    have hy : -1 ≤ y.1 ∧ -1 ≤ y.2 := by rcases hp with ⟨-, rfl⟩ | ⟨k, -, -, h1, h2⟩ <;> (try simp only) <;> omega
    refine ⟨fun hc => ?_, fun hc => ?_⟩
    · have hn : ¬ OkE false (st0 false) l := fun hk => by
        have := hh.1 hk
        simp only [Bool.cond_true_left, Bool.cond_false_right, Bool.or_eq_true, Bool.and_eq_true, Bool.not_eq_true', decide_eq_true_eq, beq_iff_eq, bne_iff_ne, u8s_length, Bool.not_eq_true, gt_iff_lt, ge_iff_le] at hc
        omega
      (conv => arg 4; whnf); repeat (refine ⟨rfl, ?_⟩; conv => arg 4; whnf)
      refine fin_ret ?_
      show holds _ _ _ _
      conv => arg 4; whnf
      rw [entA_no hn]
      exact ⟨by decide, by (repeat' (first | with_reducible exact Le.refl _ _ | exact Le.bl | exact Le.lb | exact Le.nils | exact Le.nilsFull | exact Le.none | exact LeL.nil _ | refine LeL.cons ?_ ?_ | refine Le.tup ?_ | refine Le.agg ?_ | exact Le.refl _ _ | exact LeL.refl _ _)), trivial, (by (repeat' (first | with_reducible assumption | exact ClL.nil | exact Cl.int _ _ | exact Cl.bool _ | exact Cl.bl _ | exact Cl.bs _ | exact Cl.str _ | exact Cl.nils | exact Cl.nilp | exact Cl.rec _ | exact Cl.bat _ | exact Cl.recsV _ | exact Cl.strsV _ | exact Cl.intsV _ | exact Cl.req _ | exact Cl.rsp _ | exact Cl.reqA _ | exact Cl.rspA _ | exact Cl.batsV _ | exact Cl.prsV _ | exact Cl.atsV _ | exact Cl.entA _ _ | exact Cl.foundA _ | exact Cl.getB _ | exact Cl.encA _ | exact Cl.firstA _ | refine ClL.cons ?_ ?_ | refine Cl.tup ?_ | refine Cl.agg ?_ | exact ClO.RO _ _)) : Cl _) _, trivial⟩
    · rw [← Bool.not_eq_true] at hc; simp only [Bool.cond_true_left, Bool.cond_false_right, Bool.or_eq_true, Bool.and_eq_true, Bool.not_eq_true', decide_eq_true_eq, beq_iff_eq, bne_iff_ne, u8s_length, gt_iff_lt, ge_iff_le] at hc
      (conv => arg 4; whnf); repeat (refine ⟨rfl, ?_⟩; conv => arg 4; whnf)
      refine ⟨prA x, ⟨by omega, prs_get hx⟩, ?_⟩
      (conv => arg 4; whnf); repeat (refine ⟨rfl, ?_⟩; conv => arg 4; whnf)
      refine ⟨fun hc2 => ?_, fun hc2 => ?_⟩
      · have hn : ¬ OkE false (st0 false) l := fun hk => by
          have := hh.1 hk
          simp only [Bool.cond_true_left, Bool.cond_false_right, Bool.or_eq_true, Bool.and_eq_true, Bool.not_eq_true', decide_eq_true_eq, beq_iff_eq, bne_iff_ne, u8s_length, Bool.not_eq_true, gt_iff_lt, ge_iff_le] at hc2
          omega
        (conv => arg 4; whnf); repeat (refine ⟨rfl, ?_⟩; conv => arg 4; whnf)
        refine fin_ret ?_
        show holds _ _ _ _
        conv => arg 4; whnf
        rw [entA_no hn]
        exact ⟨by decide, by (repeat' (first | with_reducible exact Le.refl _ _ | exact Le.bl | exact Le.lb | exact Le.nils | exact Le.nilsFull | exact Le.none | exact LeL.nil _ | refine LeL.cons ?_ ?_ | refine Le.tup ?_ | refine Le.agg ?_ | exact Le.refl _ _ | exact LeL.refl _ _)), trivial, (by (repeat' (first | with_reducible assumption | exact ClL.nil | exact Cl.int _ _ | exact Cl.bool _ | exact Cl.bl _ | exact Cl.bs _ | exact Cl.str _ | exact Cl.nils | exact Cl.nilp | exact Cl.rec _ | exact Cl.bat _ | exact Cl.recsV _ | exact Cl.strsV _ | exact Cl.intsV _ | exact Cl.req _ | exact Cl.rsp _ | exact Cl.reqA _ | exact Cl.rspA _ | exact Cl.batsV _ | exact Cl.prsV _ | exact Cl.atsV _ | exact Cl.entA _ _ | exact Cl.foundA _ | exact Cl.getB _ | exact Cl.encA _ | exact Cl.firstA _ | refine ClL.cons ?_ ?_ | refine Cl.tup ?_ | refine Cl.agg ?_ | exact ClO.RO _ _)) : Cl _) _, trivial⟩
      · rw [← Bool.not_eq_true] at hc2; simp only [Bool.cond_true_left, Bool.cond_false_right, Bool.or_eq_true, Bool.and_eq_true, Bool.not_eq_true', decide_eq_true_eq, beq_iff_eq, bne_iff_ne, u8s_length, gt_iff_lt, ge_iff_le] at hc2
        (conv => arg 4; whnf); repeat (refine ⟨rfl, ?_⟩; conv => arg 4; whnf)
        refine ⟨fun hc3 => ?_, fun hc3 => ?_⟩
        · have hc3 : 0 < i := by simp at hc3; omega
          rcases hp with ⟨h0, -⟩ | ⟨k, hik, hyk, h1, h2⟩
          · omega
          have hix : IntKind.i64.wrap ((i : Int) - 1) = (k : Int) := by rw [IntKind.wrap_i64]; omega
          (conv => arg 4; whnf); repeat (refine ⟨rfl, ?_⟩; conv => arg 4; whnf)
          refine ⟨prA x, ⟨by omega, prs_get hx⟩, ?_⟩
          (conv => arg 4; whnf); repeat (refine ⟨rfl, ?_⟩; conv => arg 4; whnf)
          refine ⟨prA y, ⟨by rw [hix]; omega, by rw [hix]; exact prs_get hyk⟩, ?_⟩
          (conv => arg 4; whnf); repeat (refine ⟨rfl, ?_⟩; conv => arg 4; whnf)
          refine ⟨fun hc4 => ?_, fun hc4 => ?_⟩
          · have hn : ¬ OkE false (st0 false) l := fun hk => by
              have := hh.1 hk
              simp only [Bool.cond_true_left, Bool.cond_false_right, Bool.or_eq_true, Bool.and_eq_true, Bool.not_eq_true', decide_eq_true_eq, beq_iff_eq, bne_iff_ne, u8s_length, Bool.not_eq_true, gt_iff_lt, ge_iff_le] at hc4
              omega
            (conv => arg 4; whnf); repeat (refine ⟨rfl, ?_⟩; conv => arg 4; whnf)
            refine fin_ret ?_
            show holds _ _ _ _
            conv => arg 4; whnf
            rw [entA_no hn]
            exact ⟨by decide, by (repeat' (first | with_reducible exact Le.refl _ _ | exact Le.bl | exact Le.lb | exact Le.nils | exact Le.nilsFull | exact Le.none | exact LeL.nil _ | refine LeL.cons ?_ ?_ | refine Le.tup ?_ | refine Le.agg ?_ | exact Le.refl _ _ | exact LeL.refl _ _)), trivial, (by (repeat' (first | with_reducible assumption | exact ClL.nil | exact Cl.int _ _ | exact Cl.bool _ | exact Cl.bl _ | exact Cl.bs _ | exact Cl.str _ | exact Cl.nils | exact Cl.nilp | exact Cl.rec _ | exact Cl.bat _ | exact Cl.recsV _ | exact Cl.strsV _ | exact Cl.intsV _ | exact Cl.req _ | exact Cl.rsp _ | exact Cl.reqA _ | exact Cl.rspA _ | exact Cl.batsV _ | exact Cl.prsV _ | exact Cl.atsV _ | exact Cl.entA _ _ | exact Cl.foundA _ | exact Cl.getB _ | exact Cl.encA _ | exact Cl.firstA _ | refine ClL.cons ?_ ?_ | refine Cl.tup ?_ | refine Cl.agg ?_ | exact ClO.RO _ _)) : Cl _) _, trivial⟩
          · rw [← Bool.not_eq_true] at hc4; simp only [Bool.cond_true_left, Bool.cond_false_right, Bool.or_eq_true, Bool.and_eq_true, Bool.not_eq_true', decide_eq_true_eq, beq_iff_eq, bne_iff_ne, u8s_length, gt_iff_lt, ge_iff_le] at hc4
            (conv => arg 4; whnf); repeat (refine ⟨rfl, ?_⟩; conv => arg 4; whnf)
            refine ⟨prA x, ⟨by omega, prs_get hx⟩, ?_⟩
            (conv => arg 4; whnf); repeat (refine ⟨rfl, ?_⟩; conv => arg 4; whnf)
            refine ⟨prA y, ⟨by rw [hix]; omega, by rw [hix]; exact prs_get hyk⟩, ?_⟩
            (conv => arg 4; whnf); repeat (refine ⟨rfl, ?_⟩; conv => arg 4; whnf)
            refine ⟨fun hc5 => ?_, fun hc5 => ?_⟩
            · have hn : ¬ OkE false (st0 false) l := fun hk => by
                have := hh.1 hk
                simp only [Bool.cond_true_left, Bool.cond_false_right, Bool.or_eq_true, Bool.and_eq_true, Bool.not_eq_true', decide_eq_true_eq, beq_iff_eq, bne_iff_ne, u8s_length, Bool.not_eq_true, gt_iff_lt, ge_iff_le] at hc5
                omega
              (conv => arg 4; whnf); repeat (refine ⟨rfl, ?_⟩; conv => arg 4; whnf)
              refine fin_ret ?_
              show holds _ _ _ _
              conv => arg 4; whnf
              rw [entA_no hn]
              exact ⟨by decide, by (repeat' (first | with_reducible exact Le.refl _ _ | exact Le.bl | exact Le.lb | exact Le.nils | exact Le.nilsFull | exact Le.none | exact LeL.nil _ | refine LeL.cons ?_ ?_ | refine Le.tup ?_ | refine Le.agg ?_ | exact Le.refl _ _ | exact LeL.refl _ _)), trivial, (by (repeat' (first | with_reducible assumption | exact ClL.nil | exact Cl.int _ _ | exact Cl.bool _ | exact Cl.bl _ | exact Cl.bs _ | exact Cl.str _ | exact Cl.nils | exact Cl.nilp | exact Cl.rec _ | exact Cl.bat _ | exact Cl.recsV _ | exact Cl.strsV _ | exact Cl.intsV _ | exact Cl.req _ | exact Cl.rsp _ | exact Cl.reqA _ | exact Cl.rspA _ | exact Cl.batsV _ | exact Cl.prsV _ | exact Cl.atsV _ | exact Cl.entA _ _ | exact Cl.foundA _ | exact Cl.getB _ | exact Cl.encA _ | exact Cl.firstA _ | refine ClL.cons ?_ ?_ | refine Cl.tup ?_ | refine Cl.agg ?_ | exact ClO.RO _ _)) : Cl _) _, trivial⟩
            · rw [← Bool.not_eq_true] at hc5; simp only [Bool.cond_true_left, Bool.cond_false_right, Bool.or_eq_true, Bool.and_eq_true, Bool.not_eq_true', decide_eq_true_eq, beq_iff_eq, bne_iff_ne, u8s_length, gt_iff_lt, ge_iff_le] at hc5
              (conv => arg 4; whnf); repeat (refine ⟨rfl, ?_⟩; conv => arg 4; whnf)
              refine ⟨prA x, ⟨by omega, prs_get hx⟩, ?_⟩
              (conv => arg 4; whnf); repeat (refine ⟨rfl, ?_⟩; conv => arg 4; whnf)
              refine ⟨prA y, ⟨by rw [hix]; omega, by rw [hix]; exact prs_get hyk⟩, ?_⟩
              (conv => arg 4; whnf); repeat (refine ⟨rfl, ?_⟩; conv => arg 4; whnf)
              refine ⟨fun hc6 => ?_, fun hc6 => ?_⟩
              · have hn : ¬ OkE false (st0 false) l := fun hk => by
                  have := hh.1 hk
                  simp only [Bool.cond_true_left, Bool.cond_false_right, Bool.or_eq_true, Bool.and_eq_true, Bool.not_eq_true', decide_eq_true_eq, beq_iff_eq, bne_iff_ne, u8s_length, Bool.not_eq_true, gt_iff_lt, ge_iff_le] at hc6
                  omega
                (conv => arg 4; whnf); repeat (refine ⟨rfl, ?_⟩; conv => arg 4; whnf)
                refine fin_ret ?_
                show holds _ _ _ _
                conv => arg 4; whnf
                rw [entA_no hn]
                exact ⟨by decide, by (repeat' (first | with_reducible exact Le.refl _ _ | exact Le.bl | exact Le.lb | exact Le.nils | exact Le.nilsFull | exact Le.none | exact LeL.nil _ | refine LeL.cons ?_ ?_ | refine Le.tup ?_ | refine Le.agg ?_ | exact Le.refl _ _ | exact LeL.refl _ _)), trivial, (by (repeat' (first | with_reducible assumption | exact ClL.nil | exact Cl.int _ _ | exact Cl.bool _ | exact Cl.bl _ | exact Cl.bs _ | exact Cl.str _ | exact Cl.nils | exact Cl.nilp | exact Cl.rec _ | exact Cl.bat _ | exact Cl.recsV _ | exact Cl.strsV _ | exact Cl.intsV _ | exact Cl.req _ | exact Cl.rsp _ | exact Cl.reqA _ | exact Cl.rspA _ | exact Cl.batsV _ | exact Cl.prsV _ | exact Cl.atsV _ | exact Cl.entA _ _ | exact Cl.foundA _ | exact Cl.getB _ | exact Cl.encA _ | exact Cl.firstA _ | refine ClL.cons ?_ ?_ | refine Cl.tup ?_ | refine Cl.agg ?_ | exact ClO.RO _ _)) : Cl _) _, trivial⟩
              · rw [← Bool.not_eq_true] at hc6; simp only [Bool.cond_true_left, Bool.cond_false_right, Bool.or_eq_true, Bool.and_eq_true, Bool.not_eq_true', decide_eq_true_eq, beq_iff_eq, bne_iff_ne, u8s_length, gt_iff_lt, ge_iff_le] at hc6
                (conv => arg 4; whnf); repeat (refine ⟨rfl, ?_⟩; conv => arg 4; whnf)
                refine ⟨prA x, ⟨by omega, prs_get hx⟩, ?_⟩
                (conv => arg 4; whnf); repeat (refine ⟨rfl, ?_⟩; conv => arg 4; whnf)
                refine ⟨prA x, ⟨by omega, prs_get hx⟩, ?_⟩
                (conv => arg 4; whnf); repeat (refine ⟨rfl, ?_⟩; conv => arg 4; whnf)
                refine call0 (refFixed' (n := x.1) (size := 8) hxi.1 (fits8 (by omega))) (by (repeat' (first | with_reducible assumption | exact ClL.nil | exact Cl.int _ _ | exact Cl.bool _ | exact Cl.bl _ | exact Cl.bs _ | exact Cl.str _ | exact Cl.nils | exact Cl.nilp | exact Cl.rec _ | exact Cl.bat _ | exact Cl.recsV _ | exact Cl.strsV _ | exact Cl.intsV _ | exact Cl.req _ | exact Cl.rsp _ | exact Cl.reqA _ | exact Cl.rspA _ | exact Cl.batsV _ | exact Cl.prsV _ | exact Cl.atsV _ | exact Cl.entA _ _ | exact Cl.foundA _ | exact Cl.getB _ | exact Cl.encA _ | exact Cl.firstA _ | refine ClL.cons ?_ ?_ | refine Cl.tup ?_ | refine Cl.agg ?_ | exact ClO.RO _ _))) (by (repeat' (first | with_reducible assumption | exact ClL.nil | exact Cl.int _ _ | exact Cl.bool _ | exact Cl.bl _ | exact Cl.bs _ | exact Cl.str _ | exact Cl.nils | exact Cl.nilp | exact Cl.rec _ | exact Cl.bat _ | exact Cl.recsV _ | exact Cl.strsV _ | exact Cl.intsV _ | exact Cl.req _ | exact Cl.rsp _ | exact Cl.reqA _ | exact Cl.rspA _ | exact Cl.batsV _ | exact Cl.prsV _ | exact Cl.atsV _ | exact Cl.entA _ _ | exact Cl.foundA _ | exact Cl.getB _ | exact Cl.encA _ | exact Cl.firstA _ | refine ClL.cons ?_ ?_ | refine Cl.tup ?_ | refine Cl.agg ?_ | exact ClO.RO _ _))) ?_
                (conv => arg 4; whnf); repeat (refine ⟨rfl, ?_⟩; conv => arg 4; whnf)
                refine ⟨⟨by first | rfl | trivial, sizeOk 1 rfl ?_⟩, ?_⟩
                · simp only [List.length_append, u8s_length, fixed_len]; omega
                (conv => arg 4; whnf); repeat (refine ⟨rfl, ?_⟩; conv => arg 4; whnf)
                refine call0 (refFixed' (n := x.2) (size := 8) hxi.2 (fits8 (by omega))) (by (repeat' (first | with_reducible assumption | exact ClL.nil | exact Cl.int _ _ | exact Cl.bool _ | exact Cl.bl _ | exact Cl.bs _ | exact Cl.str _ | exact Cl.nils | exact Cl.nilp | exact Cl.rec _ | exact Cl.bat _ | exact Cl.recsV _ | exact Cl.strsV _ | exact Cl.intsV _ | exact Cl.req _ | exact Cl.rsp _ | exact Cl.reqA _ | exact Cl.rspA _ | exact Cl.batsV _ | exact Cl.prsV _ | exact Cl.atsV _ | exact Cl.entA _ _ | exact Cl.foundA _ | exact Cl.getB _ | exact Cl.encA _ | exact Cl.firstA _ | refine ClL.cons ?_ ?_ | refine Cl.tup ?_ | refine Cl.agg ?_ | exact ClO.RO _ _))) (by (repeat' (first | with_reducible assumption | exact ClL.nil | exact Cl.int _ _ | exact Cl.bool _ | exact Cl.bl _ | exact Cl.bs _ | exact Cl.str _ | exact Cl.nils | exact Cl.nilp | exact Cl.rec _ | exact Cl.bat _ | exact Cl.recsV _ | exact Cl.strsV _ | exact Cl.intsV _ | exact Cl.req _ | exact Cl.rsp _ | exact Cl.reqA _ | exact Cl.rspA _ | exact Cl.batsV _ | exact Cl.prsV _ | exact Cl.atsV _ | exact Cl.entA _ _ | exact Cl.foundA _ | exact Cl.getB _ | exact Cl.encA _ | exact Cl.firstA _ | refine ClL.cons ?_ ?_ | refine Cl.tup ?_ | refine Cl.agg ?_ | exact ClO.RO _ _))) ?_
                (conv => arg 4; whnf); repeat (refine ⟨rfl, ?_⟩; conv => arg 4; whnf)
                refine ⟨⟨by first | rfl | trivial, sizeOk 1 rfl ?_⟩, ?_⟩
                · simp only [List.length_append, u8s_length, fixed_len]; omega
                (conv => arg 4; whnf); repeat (refine ⟨rfl, ?_⟩; conv => arg 4; whnf)
                exact ⟨⟨i + 1, s + 1 + 1, x, by omega, .inr ⟨i, rfl, hx, by omega, by omega⟩, hh.trans ⟨fun hk => hk.2.2, fun hk => ⟨by omega, by omega, hk⟩⟩⟩, by show l.length - (i + 1) < l.length - i; omega, WkG.of rfl rfl ⟨Le.of_eq (succ_i64 (by omega)), Le.of_eq (congrArg (AV.sl (.tok 0 (s + 1 + 1)) 0) (by rw [← entB_take hx, u8s_append, u8s_append]; rfl)), Le.refl _ _, Le.refl _ _, trivial⟩ ⟨⟨_, rfl, LeO.refl _ _⟩, trivial⟩ ⟨rfl, cut_ok rfl, Cl.prsV _ _, rfl, trivial⟩ ⟨⟨by decide, rfl⟩, trivial⟩⟩
        · have hc3 : i = 0 := by simp at hc3; omega
          rcases hp with ⟨h0, rfl⟩ | ⟨k, h0, -⟩

          · skip
            (conv => arg 4; whnf); repeat (refine ⟨rfl, ?_⟩; conv => arg 4; whnf)
            refine ⟨prA x, ⟨by omega, prs_get hx⟩, ?_⟩
            (conv => arg 4; whnf); repeat (refine ⟨rfl, ?_⟩; conv => arg 4; whnf)
            refine ⟨prA x, ⟨by omega, prs_get hx⟩, ?_⟩
            (conv => arg 4; whnf); repeat (refine ⟨rfl, ?_⟩; conv => arg 4; whnf)
            refine call0 (refFixed' (n := x.1) (size := 8) hxi.1 (fits8 (by omega))) (by (repeat' (first | with_reducible assumption | exact ClL.nil | exact Cl.int _ _ | exact Cl.bool _ | exact Cl.bl _ | exact Cl.bs _ | exact Cl.str _ | exact Cl.nils | exact Cl.nilp | exact Cl.rec _ | exact Cl.bat _ | exact Cl.recsV _ | exact Cl.strsV _ | exact Cl.intsV _ | exact Cl.req _ | exact Cl.rsp _ | exact Cl.reqA _ | exact Cl.rspA _ | exact Cl.batsV _ | exact Cl.prsV _ | exact Cl.atsV _ | exact Cl.entA _ _ | exact Cl.foundA _ | exact Cl.getB _ | exact Cl.encA _ | exact Cl.firstA _ | refine ClL.cons ?_ ?_ | refine Cl.tup ?_ | refine Cl.agg ?_ | exact ClO.RO _ _))) (by (repeat' (first | with_reducible assumption | exact ClL.nil | exact Cl.int _ _ | exact Cl.bool _ | exact Cl.bl _ | exact Cl.bs _ | exact Cl.str _ | exact Cl.nils | exact Cl.nilp | exact Cl.rec _ | exact Cl.bat _ | exact Cl.recsV _ | exact Cl.strsV _ | exact Cl.intsV _ | exact Cl.req _ | exact Cl.rsp _ | exact Cl.reqA _ | exact Cl.rspA _ | exact Cl.batsV _ | exact Cl.prsV _ | exact Cl.atsV _ | exact Cl.entA _ _ | exact Cl.foundA _ | exact Cl.getB _ | exact Cl.encA _ | exact Cl.firstA _ | refine ClL.cons ?_ ?_ | refine Cl.tup ?_ | refine Cl.agg ?_ | exact ClO.RO _ _))) ?_
            (conv => arg 4; whnf); repeat (refine ⟨rfl, ?_⟩; conv => arg 4; whnf)
            refine ⟨⟨by first | rfl | trivial, sizeOk 1 rfl ?_⟩, ?_⟩
            · simp only [List.length_append, u8s_length, fixed_len]; omega
            (conv => arg 4; whnf); repeat (refine ⟨rfl, ?_⟩; conv => arg 4; whnf)
            refine call0 (refFixed' (n := x.2) (size := 8) hxi.2 (fits8 (by omega))) (by (repeat' (first | with_reducible assumption | exact ClL.nil | exact Cl.int _ _ | exact Cl.bool _ | exact Cl.bl _ | exact Cl.bs _ | exact Cl.str _ | exact Cl.nils | exact Cl.nilp | exact Cl.rec _ | exact Cl.bat _ | exact Cl.recsV _ | exact Cl.strsV _ | exact Cl.intsV _ | exact Cl.req _ | exact Cl.rsp _ | exact Cl.reqA _ | exact Cl.rspA _ | exact Cl.batsV _ | exact Cl.prsV _ | exact Cl.atsV _ | exact Cl.entA _ _ | exact Cl.foundA _ | exact Cl.getB _ | exact Cl.encA _ | exact Cl.firstA _ | refine ClL.cons ?_ ?_ | refine Cl.tup ?_ | refine Cl.agg ?_ | exact ClO.RO _ _))) (by (repeat' (first | with_reducible assumption | exact ClL.nil | exact Cl.int _ _ | exact Cl.bool _ | exact Cl.bl _ | exact Cl.bs _ | exact Cl.str _ | exact Cl.nils | exact Cl.nilp | exact Cl.rec _ | exact Cl.bat _ | exact Cl.recsV _ | exact Cl.strsV _ | exact Cl.intsV _ | exact Cl.req _ | exact Cl.rsp _ | exact Cl.reqA _ | exact Cl.rspA _ | exact Cl.batsV _ | exact Cl.prsV _ | exact Cl.atsV _ | exact Cl.entA _ _ | exact Cl.foundA _ | exact Cl.getB _ | exact Cl.encA _ | exact Cl.firstA _ | refine ClL.cons ?_ ?_ | refine Cl.tup ?_ | refine Cl.agg ?_ | exact ClO.RO _ _))) ?_
            (conv => arg 4; whnf); repeat (refine ⟨rfl, ?_⟩; conv => arg 4; whnf)
            refine ⟨⟨by first | rfl | trivial, sizeOk 1 rfl ?_⟩, ?_⟩
            · simp only [List.length_append, u8s_length, fixed_len]; omega
            (conv => arg 4; whnf); repeat (refine ⟨rfl, ?_⟩; conv => arg 4; whnf)
            exact ⟨⟨i + 1, s + 1 + 1, x, by omega, .inr ⟨i, rfl, hx, by omega, by omega⟩, hh.trans ⟨fun hk => hk.2.2, fun hk => ⟨by omega, by omega, hk⟩⟩⟩, by show l.length - (i + 1) < l.length - i; omega, WkG.of rfl rfl ⟨Le.of_eq (succ_i64 (by omega)), Le.of_eq (congrArg (AV.sl (.tok 0 (s + 1 + 1)) 0) (by rw [← entB_take hx, u8s_append, u8s_append]; rfl)), Le.refl _ _, Le.refl _ _, trivial⟩ ⟨⟨_, rfl, LeO.refl _ _⟩, trivial⟩ ⟨rfl, cut_ok rfl, Cl.prsV _ _, rfl, trivial⟩ ⟨⟨by decide, rfl⟩, trivial⟩⟩
          · omega
  · have h : i = l.length := by rw [prs_length] at h; simp at h; omega
    subst h
    rw [List.drop_length] at hh
    have hk : OkE false (st0 false) l := hh.2 trivial
    rw [entA_yes hk]
    conv => arg 4; whnf
    refine fin_exit ?_
    show holds _ _ _ _
    conv => arg 4; whnf
    rw [List.take_length]
    exact ⟨by decide, Le.tup (LeL.cons Le.none (LeL.refl _ _)), trivial, Cl.tup (ClL.cons (Cl.bs _) (ClL.cons (Cl.int _ _) ClL.nil)) _, trivial⟩
end Go.Proofs.Ytejocegoockacaa.Ix
