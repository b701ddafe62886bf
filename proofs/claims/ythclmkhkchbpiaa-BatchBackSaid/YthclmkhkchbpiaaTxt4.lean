/-
  The batch that bytes begin with, as the document says.
-/
import Derived.Test.YthclmkhkchbpiaaTxt3
set_option linter.unusedVariables false
set_option linter.unusedSimpArgs false
namespace Go.Proofs.Ythclmkhkchbpiaa
set_option maxRecDepth 100000
set_option maxHeartbeats 80000000
open Go.Sym

theorem slice_at {P pre x post : List UInt8} {a b : Nat} (h : P = pre ++ (x ++ post)) (ha : pre.length = a) (hb : b = a + x.length) : (P.take b).drop a = x := by
  subst h ha hb
  rw [List.take_append, List.take_of_length_le (by omega), List.drop_left, Nat.add_sub_cancel_left, List.take_left]

/-- The number that stands in bytes. -/
def fxAt (P : List UInt8) (a b : Nat) : Int := IntKind.i64.wrap (unfixed 0 ((P.take b).drop a) : Nat)

theorem fxAt_eq {P pre post : List UInt8} {n : Int} {a b k : Nat} (h : P = pre ++ (fixed n.toNat k ++ post)) (ha : pre.length = a) (hb : b = a + k) (hn : 0 ≤ n) (hk : n < 256 ^ k) (hm : n ≤ 9223372036854775807) : fxAt P a b = n := by
  have e : (256 : Int) ^ k = ((256 ^ k : Nat) : Int) := by simp
  have z : 0 = n.toNat / 256 ^ k := by rw [Nat.div_eq_of_lt]; omega
  rw [fxAt, slice_at h ha (by rw [hb, fixed_len]), unfixed_fixed k 0 z, IntKind.wrap_i64]
  omega

theorem fxAt_nat {P pre post : List UInt8} {n a b k : Nat} (h : P = pre ++ (fixed n k ++ post)) (ha : pre.length = a) (hb : b = a + k) (hk : n < 256 ^ k) (hm : n ≤ 9223372036854775807) : fxAt P a b = (n : Int) := by
  have e : (256 : Int) ^ k = ((256 ^ k : Nat) : Int) := by simp
  exact fxAt_eq (n := (n : Int)) (by rw [Int.toNat_natCast]; exact h) ha hb (by omega) (by omega) (by omega)

theorem getFx {P : List UInt8} {a b : Nat} (h : b - a ≤ 8) : CallOK Try.prog 25 [.sl .none 0 (((u8s P).take b).drop a)] [] 0 (Out (.int .i64 (fxAt P a b)) [] 0) := by
  rw [u8s_take, u8s_drop]
  exact refGetFixed (by simp; omega)
theorem getFx0 {P : List UInt8} {b : Nat} (h : b ≤ 8) : CallOK Try.prog 25 [.sl .none 0 ((u8s P).take b)] [] 0 (Out (.int .i64 (fxAt P 0 b)) [] 0) := by
  rw [u8s_take, fxAt, List.drop_zero]
  exact refGetFixed (by simp; omega)

theorem clFx (P : List UInt8) (a b : Nat) : ClL [.sl .none 0 (((u8s P).take b).drop a)] := by
  rw [u8s_take, u8s_drop]
  exact ClL.cons (Cl.bs _) ClL.nil
theorem clFx0 (P : List UInt8) (b : Nat) : ClL [.sl .none 0 ((u8s P).take b)] := by
  rw [u8s_take]
  exact ClL.cons (Cl.bs _) ClL.nil

/-- Where a batch's numbers stand. -/
theorem enc_at {b : Bat} (h : b.chk = 0) : (fxAt b.enc 0 8 = b.base ∧ fxAt b.enc 16 24 = b.last - b.base ∧ fxAt b.enc 24 32 = b.first ∧ fxAt b.enc 32 40 = b.prod ∧ fxAt b.enc 40 42 = b.epoch ∧ fxAt b.enc 42 46 = b.seq ∧ fxAt b.enc 46 50 = (b.recs.length : Int)) ∧ b.enc.drop 50 = recsB b.recs b.first b.base := by
  obtain ⟨hf, -, -⟩ := chk_fine h
  have ht := first_time hf
  have hh := hf.head
  have hn := hf.few
  unfold HeadBad at hh
  obtain ⟨A, hA⟩ : ∃ A, A = fixed b.base.toNat 8 ++ fixed (b.rest.length + 4) 4 ++ fixed (crcSum b.rest) 4 := ⟨_, rfl⟩
  have lA : A.length = 16 := by rw [hA]; simp only [List.length_append, fixed_len]
  have e0 : b.enc = [] ++ (fixed b.base.toNat 8 ++ (fixed (b.rest.length + 4) 4 ++ (fixed (crcSum b.rest) 4 ++ b.rest))) := by rw [Bat.enc]; simp only [List.append_assoc, List.nil_append]
  have e1 : b.enc = A ++ (fixed (b.last - b.base).toNat 8 ++ (fixed b.first.toNat 8 ++ (fixed b.prod.toNat 8 ++ (fixed b.epoch.toNat 2 ++ (fixed b.seq.toNat 4 ++ (fixed b.recs.length 4 ++ recsB b.recs b.first b.base)))))) := by
    rw [Bat.enc, ← hA]
    exact congrArg (A ++ ·) (by simp only [Bat.rest, Bat.head, List.append_assoc])
  have p8 : (256 : Int) ^ 8 = 18446744073709551616 := by decide
  have p4 : (256 : Int) ^ 4 = 4294967296 := by decide
  have p2 : (256 : Int) ^ 2 = 65536 := by decide
  have q4 : (256 : Nat) ^ 4 = 4294967296 := by decide
  refine ⟨⟨fxAt_eq e0 rfl rfl (by omega) (by rw [p8]; omega) (by omega), fxAt_eq (pre := A) (k := 8) (by first | exact e1 | (rw [e1]; simp only [List.append_assoc]; rfl)) (by simp only [List.length_append, fixed_len, lA]) rfl (by omega) (by rw [p8]; omega) (by omega), fxAt_eq (pre := A ++ fixed (b.last - b.base).toNat 8) (k := 8) (by first | exact e1 | (rw [e1]; simp only [List.append_assoc]; rfl)) (by simp only [List.length_append, fixed_len, lA]) rfl (by omega) (by rw [p8]; omega) (by omega), fxAt_eq (pre := A ++ fixed (b.last - b.base).toNat 8 ++ fixed b.first.toNat 8) (k := 8) (by first | exact e1 | (rw [e1]; simp only [List.append_assoc]; rfl)) (by simp only [List.length_append, fixed_len, lA]) rfl (by omega) (by rw [p8]; omega) (by omega), fxAt_eq (pre := A ++ fixed (b.last - b.base).toNat 8 ++ fixed b.first.toNat 8 ++ fixed b.prod.toNat 8) (k := 2) (by first | exact e1 | (rw [e1]; simp only [List.append_assoc]; rfl)) (by simp only [List.length_append, fixed_len, lA]) rfl (by omega) (by rw [p2]; omega) (by omega), fxAt_eq (pre := A ++ fixed (b.last - b.base).toNat 8 ++ fixed b.first.toNat 8 ++ fixed b.prod.toNat 8 ++ fixed b.epoch.toNat 2) (k := 4) (by first | exact e1 | (rw [e1]; simp only [List.append_assoc]; rfl)) (by simp only [List.length_append, fixed_len, lA]) rfl (by omega) (by rw [p4]; omega) (by omega), fxAt_nat (pre := A ++ fixed (b.last - b.base).toNat 8 ++ fixed b.first.toNat 8 ++ fixed b.prod.toNat 8 ++ fixed b.epoch.toNat 2 ++ fixed b.seq.toNat 4) (k := 4) (by first | exact e1 | (rw [e1]; simp only [List.append_assoc]; rfl)) (by simp only [List.length_append, fixed_len, lA]) rfl (by omega) (by omega)⟩, ?_⟩
  rw [show b.enc = (A ++ fixed (b.last - b.base).toNat 8 ++ fixed b.first.toNat 8 ++ fixed b.prod.toNat 8 ++ fixed b.epoch.toNat 2 ++ fixed b.seq.toNat 4 ++ fixed b.recs.length 4) ++ recsB b.recs b.first b.base by rw [e1]; simp only [List.append_assoc]]
  exact List.drop_left' (by simp only [List.length_append, fixed_len, lA])

theorem refGetBytesE {b : List UInt8} {most : Int} (hb : b.length ≤ 100000000000000) : CallOK Try.prog 29 [bs b, .int .i64 most] [] 0
    (fun a h m => ∃ x : ByX, (x.v.length ≤ b.length ∧ x.r.length ≤ b.length ∧ ∀ s t, b = lenB s ++ t → s.length ≤ 1000000000 → (s.length : Int) ≤ most → x.v = s ∧ x.r = t ∧ x.e = 0) ∧ Out (.tup [bs x.v, bs x.r, .int .i64 x.e]) [] 0 a h m) :=
  (refGetBytes hb).mono fun a h m ⟨e1, e2, e3⟩ => by
    unfold bytesA at e1
    have no : ∀ s t, b = lenB s ++ t → s.length ≤ 1000000000 → getL 0 0 b = some (zig (s.length : Int), (put (s.length : Int)).length) ∧ zag (zig (s.length : Int)) = (s.length : Int) ∧ b.drop (put (s.length : Int)).length = s ++ t ∧ b.length = (put (s.length : Int)).length + (s.length + t.length) := fun s t e hs => by
      have hn : I64 (s.length : Int) := by unfold I64; omega
      rw [lenB, List.append_assoc] at e
      refine ⟨by rw [e, getL_at hn], zag_zig hn, by rw [e, List.drop_left], by rw [e, List.length_append, List.length_append]⟩
    cases hg : getL 0 0 b with
    | none =>
      rw [hg] at e1
      refine ⟨⟨[], [], 2⟩, ⟨by simp, by simp, fun s t e hs hm => ?_⟩, e1, e2, e3⟩
      rw [(no s t e hs).1] at hg; cases hg
    | some uk =>
      obtain ⟨u, k⟩ := uk
      rw [hg] at e1
      have no := fun s t e hs => by have := no s t e hs; rw [hg] at this; exact this
      simp only at e1
      split at e1
      · rename_i hc
        refine ⟨⟨[], [], 2⟩, ⟨by simp, by simp, fun s t e hs hm => ?_⟩, e1, e2, e3⟩
        obtain ⟨q1, q2, q3, q4⟩ := no s t e hs
        simp only [Option.some.injEq, Prod.mk.injEq] at q1
        rw [q1.1, q1.2, q2] at hc
        omega
      · split at e1
        · rename_i hc
          refine ⟨⟨[], [], 3⟩, ⟨by simp, by simp, fun s t e hs hm => ?_⟩, e1, e2, e3⟩
          obtain ⟨q1, q2, q3, q4⟩ := no s t e hs
          simp only [Option.some.injEq, Prod.mk.injEq] at q1
          rw [q1.1, q2] at hc
          omega
        · refine ⟨⟨_, _, 0⟩, ⟨by first | (simp; done) | (simp; omega), by first | (simp; done) | (simp; omega), fun s t e hs hm => ?_⟩, e1, e2, e3⟩
          obtain ⟨q1, q2, q3, q4⟩ := no s t e hs
          simp only [Option.some.injEq, Prod.mk.injEq] at q1
          simp only [q1.1, q1.2, q2, q3, Int.toNat_natCast, List.take_left, List.drop_left, and_self]

structure RfI (P p : List UInt8) (n : Int) where
  i : Nat
  s : Nat
  r : List UInt8
  l : List Rec
  hi : (i : Int) ≤ max n 0
  hl : l.length = i
  hr : r.length ≤ P.length
  h : ∀ b : Bat, b.begins p → l = b.recs.take i ∧ r = recsB (b.recs.drop i) b.first b.base

theorem refFirst {p : List UInt8} (hl : p.length ≤ 1000000000) : CallOK Try.prog 41 [bs p] [] 0
    (fun a h m => ∃ x : FsX, ((x.e = 0 ∧ x.b.begins p ∧ x.n = x.b.enc.length ∧ ∀ b : Bat, b.begins p → x.b = b) ∨ (x.e = 2 ∧ x.b = Bat.none ∧ x.n = 0 ∧ ∀ b : Bat, ¬ b.begins p)) ∧ Out (.tup [x.b.av, .int .i64 x.n]) [] 0 a h m) := by
  refine CallOK.fitE (by decide) ?_
  refine callOK Try.call41 Try.func41 Try.ntmps41 rfl ?_
  conv => arg 4; whnf
  have bl : ∀ b : Bat, b.begins p → 50 ≤ p.length ∧ b.enc.length ≤ p.length ∧ b.enc.length ≤ 65536 ∧ 50 ≤ b.enc.length := fun b hb => by
    obtain ⟨t, ht⟩ := hb.2
    obtain ⟨hf, hle, -⟩ := chk_fine hb.1
    have h1 := batE_len (b := b)
    have h2 : b.rest.length = 34 + (recsB b.recs b.first b.base).length := by rw [Bat.rest, List.length_append, head_len]
    have h3 : p.length = b.enc.length + t.length := by rw [← ht, List.length_append]
    omega
  refine ⟨fun h => ?_, fun h => ?_⟩
  · simp only [Bool.cond_true_left, Bool.cond_false_right, Bool.or_eq_true, Bool.and_eq_true, Bool.not_eq_true', decide_eq_true_eq, beq_iff_eq, bne_iff_ne, u8s_length, Bool.not_eq_true, gt_iff_lt, ge_iff_le] at h
    (conv => arg 4; whnf); repeat (refine ⟨rfl, ?_⟩; conv => arg 4; whnf)
    refine ⟨⟨Bat.none, 0, 2⟩, .inr ⟨rfl, rfl, rfl, fun b hb => ?_⟩, by decide, by (repeat' (first | with_reducible exact Le.refl _ _ | exact Le.bl | exact Le.lb | exact Le.nils | exact Le.nilsFull | exact Le.none | exact LeL.nil _ | refine LeL.cons ?_ ?_ | refine Le.tup ?_ | refine Le.agg ?_ | exact Le.refl _ _ | exact LeL.refl _ _)), trivial, (by (repeat' (first | with_reducible assumption | exact ClL.nil | exact Cl.int _ _ | exact Cl.bool _ | exact Cl.bl _ | exact Cl.bs _ | exact Cl.str _ | exact Cl.nils | exact Cl.nilp | exact Cl.rec _ | exact Cl.bat _ | exact Cl.recsV _ | exact Cl.strsV _ | exact Cl.intsV _ | exact Cl.req _ | exact Cl.rsp _ | exact Cl.reqA _ | exact Cl.rspA _ | exact Cl.batsV _ | exact Cl.getB _ | exact Cl.encA _ | exact Cl.firstA _ | refine ClL.cons ?_ ?_ | refine Cl.tup ?_ | refine Cl.agg ?_ | exact ClO.RO _ _)) : Cl _) _, trivial⟩
    have := bl b hb
    omega
  · rw [← Bool.not_eq_true] at h; simp only [Bool.cond_true_left, Bool.cond_false_right, Bool.or_eq_true, Bool.and_eq_true, Bool.not_eq_true', decide_eq_true_eq, beq_iff_eq, bne_iff_ne, u8s_length, gt_iff_lt, ge_iff_le] at h
    (conv => arg 4; whnf); repeat (refine ⟨rfl, ?_⟩; conv => arg 4; whnf)
    refine ⟨by rw [u8s_length]; omega, ?_⟩
    (conv => arg 4; whnf); repeat (refine ⟨rfl, ?_⟩; conv => arg 4; whnf)
    refine call0 (getFx (P := p) (a := 8) (b := 12) (by decide)) (clFx _ _ _) (Cl.int _ _) ?_
    (conv => arg 4; whnf); repeat (refine ⟨rfl, ?_⟩; conv => arg 4; whnf)
    obtain ⟨n0, hn0⟩ : ∃ n0, n0 = fxAt p 8 12 := ⟨_, rfl⟩
    rw [← hn0]
    have gn : ∀ b : Bat, b.begins p → n0 = (b.enc.length : Int) - 12 := fun b hb => by
      obtain ⟨h1, h2, h3, h4⟩ := bl b hb
      obtain ⟨t, ht⟩ := hb.2
      have hlen := batE_len (b := b)
      rw [hn0, fxAt_nat (n := b.rest.length + 4) (k := 4) (pre := fixed b.base.toNat 8) (post := fixed (crcSum b.rest) 4 ++ (b.rest ++ t)) (by rw [← ht, Bat.enc]; simp only [List.append_assoc]) (fixed_len _ _) rfl (by omega) (by omega)]
      omega
    have hw : IntKind.i64.wrap ((p.length : Int) - 12) = (p.length : Int) - 12 := by rw [IntKind.wrap_i64]; omega
    refine ⟨fun h2 => ?_, fun h2 => ?_⟩
    · simp only [Bool.cond_true_left, Bool.cond_false_right, Bool.or_eq_true, Bool.and_eq_true, Bool.not_eq_true', decide_eq_true_eq, beq_iff_eq, bne_iff_ne, u8s_length, Bool.not_eq_true, gt_iff_lt, ge_iff_le] at h2
      rw [hw] at h2
      (conv => arg 4; whnf); repeat (refine ⟨rfl, ?_⟩; conv => arg 4; whnf)
      refine ⟨⟨Bat.none, 0, 2⟩, .inr ⟨rfl, rfl, rfl, fun b hb => ?_⟩, by decide, by (repeat' (first | with_reducible exact Le.refl _ _ | exact Le.bl | exact Le.lb | exact Le.nils | exact Le.nilsFull | exact Le.none | exact LeL.nil _ | refine LeL.cons ?_ ?_ | refine Le.tup ?_ | refine Le.agg ?_ | exact Le.refl _ _ | exact LeL.refl _ _)), trivial, (by (repeat' (first | with_reducible assumption | exact ClL.nil | exact Cl.int _ _ | exact Cl.bool _ | exact Cl.bl _ | exact Cl.bs _ | exact Cl.str _ | exact Cl.nils | exact Cl.nilp | exact Cl.rec _ | exact Cl.bat _ | exact Cl.recsV _ | exact Cl.strsV _ | exact Cl.intsV _ | exact Cl.req _ | exact Cl.rsp _ | exact Cl.reqA _ | exact Cl.rspA _ | exact Cl.batsV _ | exact Cl.getB _ | exact Cl.encA _ | exact Cl.firstA _ | refine ClL.cons ?_ ?_ | refine Cl.tup ?_ | refine Cl.agg ?_ | exact ClO.RO _ _)) : Cl _) _, trivial⟩
      have h3 := bl b hb
      have h4 := gn b hb
      omega
    · rw [← Bool.not_eq_true] at h2; simp only [Bool.cond_true_left, Bool.cond_false_right, Bool.or_eq_true, Bool.and_eq_true, Bool.not_eq_true', decide_eq_true_eq, beq_iff_eq, bne_iff_ne, u8s_length, gt_iff_lt, ge_iff_le] at h2
      rw [hw] at h2
      (conv => arg 4; whnf); repeat (refine ⟨rfl, ?_⟩; conv => arg 4; whnf)
      have hw2 : IntKind.i64.wrap (12 + n0) = 12 + n0 := by rw [IntKind.wrap_i64]; omega
      refine ⟨by rw [hw2, u8s_length]; omega, ?_⟩
      (conv => arg 4; whnf); repeat (refine ⟨rfl, ?_⟩; conv => arg 4; whnf)
      obtain ⟨P, hP⟩ : ∃ P, P = p.take (12 + n0).toNat := ⟨_, rfl⟩
      have eP : List.take (IntKind.i64.wrap (12 + n0)).toNat (u8s p) = u8s P := by rw [hw2, u8s_take, hP]
      have lP : P.length = (12 + n0).toNat := by rw [hP, List.length_take]; omega
      have gP : ∀ b : Bat, b.begins p → P = b.enc := fun b hb => by
        obtain ⟨t, ht⟩ := hb.2
        have h4 := gn b hb
        rw [hP, ← ht, List.take_left' (by omega)]
      rw [eP]
      refine ⟨by rw [u8s_length]; omega, ?_⟩
      (conv => arg 4; whnf); repeat (refine ⟨rfl, ?_⟩; conv => arg 4; whnf)
      refine ⟨by rw [u8s_length]; omega, ?_⟩
      (conv => arg 4; whnf); repeat (refine ⟨rfl, ?_⟩; conv => arg 4; whnf)
      refine call0 (getFx0 (P := P) (b := 8) (by decide)) (clFx0 _ _) (Cl.int _ _) ?_
      (conv => arg 4; whnf); repeat (refine ⟨rfl, ?_⟩; conv => arg 4; whnf)
      refine call0 (getFx (P := P) (a := 16) (b := 24) (by decide)) (clFx _ _ _) (Cl.int _ _) ?_
      (conv => arg 4; whnf); repeat (refine ⟨rfl, ?_⟩; conv => arg 4; whnf)
      refine ⟨by rw [u8s_length]; omega, ?_⟩
      (conv => arg 4; whnf); repeat (refine ⟨rfl, ?_⟩; conv => arg 4; whnf)
      refine call0 (getFx (P := P) (a := 24) (b := 32) (by decide)) (clFx _ _ _) (Cl.int _ _) ?_
      (conv => arg 4; whnf); repeat (refine ⟨rfl, ?_⟩; conv => arg 4; whnf)
      have gF : ∀ b : Bat, b.begins p → (fxAt P 0 8 = b.base ∧ fxAt P 16 24 = b.last - b.base ∧ fxAt P 24 32 = b.first ∧ fxAt P 32 40 = b.prod ∧ fxAt P 40 42 = b.epoch ∧ fxAt P 42 46 = b.seq ∧ fxAt P 46 50 = (b.recs.length : Int)) ∧ P.drop 50 = recsB b.recs b.first b.base := fun b hb => by
        rw [gP b hb]; exact enc_at hb.1
      obtain ⟨y0, hy0⟩ : ∃ y, y = fxAt P 0 8 := ⟨_, rfl⟩
      obtain ⟨y1, hy1⟩ : ∃ y, y = fxAt P 16 24 := ⟨_, rfl⟩
      obtain ⟨y2, hy2⟩ : ∃ y, y = fxAt P 24 32 := ⟨_, rfl⟩
      rw [← hy0, ← hy1, ← hy2] at gF ⊢
      clear hy0 hy1 hy2
      conv => arg 4; whnf
      refine ⟨fun h3 => ?_, fun h3 => ?_⟩
      · simp only [Bool.cond_true_left, Bool.cond_false_right, Bool.or_eq_true, Bool.and_eq_true, Bool.not_eq_true', decide_eq_true_eq, beq_iff_eq, bne_iff_ne, u8s_length, Bool.not_eq_true, gt_iff_lt, ge_iff_le] at h3
        have hw3 : 0 ≤ y0 ∧ y0 ≤ 4611686018427387904 → IntKind.i64.wrap (4611686018427387904 - y0) = 4611686018427387904 - y0 := fun h => by rw [IntKind.wrap_i64]; omega
        (conv => arg 4; whnf); repeat (refine ⟨rfl, ?_⟩; conv => arg 4; whnf)
        refine ⟨⟨Bat.none, 0, 2⟩, .inr ⟨rfl, rfl, rfl, fun b hb => ?_⟩, by decide, by (repeat' (first | with_reducible exact Le.refl _ _ | exact Le.bl | exact Le.lb | exact Le.nils | exact Le.nilsFull | exact Le.none | exact LeL.nil _ | refine LeL.cons ?_ ?_ | refine Le.tup ?_ | refine Le.agg ?_ | exact Le.refl _ _ | exact LeL.refl _ _)), trivial, (by (repeat' (first | with_reducible assumption | exact ClL.nil | exact Cl.int _ _ | exact Cl.bool _ | exact Cl.bl _ | exact Cl.bs _ | exact Cl.str _ | exact Cl.nils | exact Cl.nilp | exact Cl.rec _ | exact Cl.bat _ | exact Cl.recsV _ | exact Cl.strsV _ | exact Cl.intsV _ | exact Cl.req _ | exact Cl.rsp _ | exact Cl.reqA _ | exact Cl.rspA _ | exact Cl.batsV _ | exact Cl.getB _ | exact Cl.encA _ | exact Cl.firstA _ | refine ClL.cons ?_ ?_ | refine Cl.tup ?_ | refine Cl.agg ?_ | exact ClO.RO _ _)) : Cl _) _, trivial⟩
        obtain ⟨hf, -, -⟩ := chk_fine hb.1
        have ht := first_time hf
        have hh := hf.head
        unfold HeadBad at hh
        obtain ⟨⟨f0, f1, f2, -⟩, -⟩ := gF b hb
        rw [hw3 (by omega)] at h3
        omega
      · rw [← Bool.not_eq_true] at h3; simp only [Bool.cond_true_left, Bool.cond_false_right, Bool.or_eq_true, Bool.and_eq_true, Bool.not_eq_true', decide_eq_true_eq, beq_iff_eq, bne_iff_ne, u8s_length, gt_iff_lt, ge_iff_le] at h3
        (conv => arg 4; whnf); repeat (refine ⟨rfl, ?_⟩; conv => arg 4; whnf)
        have l50 : 50 ≤ P.length := by omega
        (repeat (refine ⟨by first | (rw [u8s_length]; omega) | (simp only [u8s_length]; omega) | omega | decide, ?_⟩; conv => arg 4; whnf))
        refine call0 (getFx (P := P) (a := 32) (b := 40) (by decide)) (clFx _ _ _) (Cl.int _ _) ?_
        (conv => arg 4; whnf); repeat (refine ⟨rfl, ?_⟩; conv => arg 4; whnf)
        refine call0 (getFx (P := P) (a := 40) (b := 42) (by decide)) (clFx _ _ _) (Cl.int _ _) ?_
        (conv => arg 4; whnf); repeat (refine ⟨rfl, ?_⟩; conv => arg 4; whnf)
        refine call0 (getFx (P := P) (a := 42) (b := 46) (by decide)) (clFx _ _ _) (Cl.int _ _) ?_
        (conv => arg 4; whnf); repeat (refine ⟨rfl, ?_⟩; conv => arg 4; whnf)
        (repeat (refine ⟨by first | (rw [u8s_length]; omega) | (simp only [u8s_length]; omega) | omega | decide, ?_⟩; conv => arg 4; whnf))
        refine call0 (getFx (P := P) (a := 46) (b := 50) (by decide)) (clFx _ _ _) (Cl.int _ _) ?_
        (conv => arg 4; whnf); repeat (refine ⟨rfl, ?_⟩; conv => arg 4; whnf)
        obtain ⟨y3, hy3⟩ : ∃ y, y = fxAt P 32 40 := ⟨_, rfl⟩
        obtain ⟨y4, hy4⟩ : ∃ y, y = fxAt P 40 42 := ⟨_, rfl⟩
        obtain ⟨y5, hy5⟩ : ∃ y, y = fxAt P 42 46 := ⟨_, rfl⟩
        obtain ⟨y6, hy6⟩ : ∃ y, y = fxAt P 46 50 := ⟨_, rfl⟩
        rw [← hy3, ← hy4, ← hy5, ← hy6] at gF ⊢
        clear hy3 hy4 hy5 hy6
        conv => arg 4; whnf
        refine ⟨fun h4 => ?_, fun h4 => ?_⟩
        · simp only [Bool.cond_true_left, Bool.cond_false_right, Bool.or_eq_true, Bool.and_eq_true, Bool.not_eq_true', decide_eq_true_eq, beq_iff_eq, bne_iff_ne, u8s_length, Bool.not_eq_true, gt_iff_lt, ge_iff_le] at h4
          (conv => arg 4; whnf); repeat (refine ⟨rfl, ?_⟩; conv => arg 4; whnf)
          refine ⟨⟨Bat.none, 0, 2⟩, .inr ⟨rfl, rfl, rfl, fun b hb => ?_⟩, by decide, by (repeat' (first | with_reducible exact Le.refl _ _ | exact Le.bl | exact Le.lb | exact Le.nils | exact Le.nilsFull | exact Le.none | exact LeL.nil _ | refine LeL.cons ?_ ?_ | refine Le.tup ?_ | refine Le.agg ?_ | exact Le.refl _ _ | exact LeL.refl _ _)), trivial, (by (repeat' (first | with_reducible assumption | exact ClL.nil | exact Cl.int _ _ | exact Cl.bool _ | exact Cl.bl _ | exact Cl.bs _ | exact Cl.str _ | exact Cl.nils | exact Cl.nilp | exact Cl.rec _ | exact Cl.bat _ | exact Cl.recsV _ | exact Cl.strsV _ | exact Cl.intsV _ | exact Cl.req _ | exact Cl.rsp _ | exact Cl.reqA _ | exact Cl.rspA _ | exact Cl.batsV _ | exact Cl.getB _ | exact Cl.encA _ | exact Cl.firstA _ | refine ClL.cons ?_ ?_ | refine Cl.tup ?_ | refine Cl.agg ?_ | exact ClO.RO _ _)) : Cl _) _, trivial⟩
          have hn := (chk_fine hb.1).1.few
          obtain ⟨⟨-, -, -, -, -, -, f6⟩, -⟩ := gF b hb
          omega
        · rw [← Bool.not_eq_true] at h4; simp only [Bool.cond_true_left, Bool.cond_false_right, Bool.or_eq_true, Bool.and_eq_true, Bool.not_eq_true', decide_eq_true_eq, beq_iff_eq, bne_iff_ne, u8s_length, gt_iff_lt, ge_iff_le] at h4
          (conv => arg 4; whnf); repeat (refine ⟨rfl, ?_⟩; conv => arg 4; whnf)
          refine tri_loopG (ι := RfI P p y6) (fun a => ⟨[(11, .int .i64 a.i), (10, .int .i64 y6), (9, bs a.r), (8, .ptr 1 0), (7, .int .i64 y2), (5, .int .i64 y0), (3, .int .i64 0), (2, .ptr 0 0), (0, bs P)], [(2, .tip a.s), (1, .cells [.int .i64 y0, .int .i64 (IntKind.i64.wrap (y0 + y1)), .int .i64 y3, .int .i64 y4, .int .i64 y5, .sl (.tok 2 a.s) 6 (recsL a.l)]), (0, .cells [.int .i64 0, .int .i64 0, .int .i64 0, .int .i64 0, .int .i64 0, .nils])], 3, 151⟩) (fun a => (y6 - a.i).toNat) ⟨0, 0, P.drop 50, [], by omega, rfl, by simp, fun b hb => ⟨rfl, (gF b hb).2⟩⟩ (WkG.tok rfl rfl ⟨Le.refl _ _, Le.refl _ _, Le.of_eq (congrArg (AV.sl .none 0) (u8s_drop _ _)), Le.refl _ _, Le.refl _ _, Le.refl _ _, Le.refl _ _, Le.refl _ _, Le.refl _ _, trivial⟩ ⟨⟨_, rfl, rfl⟩, ⟨_, rfl, LeL.cons (Le.refl _ _) (LeL.cons (Le.refl _ _) (LeL.cons (Le.refl _ _) (LeL.cons (Le.refl _ _) (LeL.cons (Le.refl _ _) (LeL.cons (Le.nilsTok rfl) (LeL.nil _))))))⟩, ⟨_, rfl, LeO.refl _ _⟩, trivial⟩ ⟨rfl, rfl, (by (repeat' (first | with_reducible assumption | exact ClL.nil | exact Cl.int _ _ | exact Cl.bool _ | exact Cl.bl _ | exact Cl.bs _ | exact Cl.str _ | exact Cl.nils | exact Cl.nilp | exact Cl.rec _ | exact Cl.bat _ | exact Cl.recsV _ | exact Cl.strsV _ | exact Cl.intsV _ | exact Cl.req _ | exact Cl.rsp _ | exact Cl.reqA _ | exact Cl.rspA _ | exact Cl.batsV _ | exact Cl.getB _ | exact Cl.encA _ | exact Cl.firstA _ | refine ClL.cons ?_ ?_ | refine Cl.tup ?_ | refine Cl.agg ?_ | exact ClO.RO _ _)) : Cl _) _, rfl, rfl, rfl, rfl, rfl, (by (repeat' (first | with_reducible assumption | exact ClL.nil | exact Cl.int _ _ | exact Cl.bool _ | exact Cl.bl _ | exact Cl.bs _ | exact Cl.str _ | exact Cl.nils | exact Cl.nilp | exact Cl.rec _ | exact Cl.bat _ | exact Cl.recsV _ | exact Cl.strsV _ | exact Cl.intsV _ | exact Cl.req _ | exact Cl.rsp _ | exact Cl.reqA _ | exact Cl.rspA _ | exact Cl.batsV _ | exact Cl.getB _ | exact Cl.encA _ | exact Cl.firstA _ | refine ClL.cons ?_ ?_ | refine Cl.tup ?_ | refine Cl.agg ?_ | exact ClO.RO _ _)) : Cl _) _, trivial⟩ ⟨⟨by decide, rfl⟩, ⟨by decide, rfl⟩, ⟨by decide, rfl⟩, trivial⟩) ?_
          rintro ⟨i, s, r, l, hi, hll, hrl, hg⟩
          dsimp only
          conv => arg 4; whnf
          refine ⟨fun h => ?_, fun h => ?_⟩
          · have h : (i : Int) < y6 := by simpa using h
            (conv => arg 4; whnf); repeat (refine ⟨rfl, ?_⟩; conv => arg 4; whnf)
            refine holds_args (args' := [bs r, .int .i64 r.length]) ⟨Le.refl _ _, Le.of_eq (congrArg (AV.int .i64) (by rw [u8s_length] : ((u8s r).length : Int) = r.length)), trivial⟩ ?_
            refine call0E (refGetBytesE (b := r) (by omega)) (by (repeat' (first | with_reducible assumption | exact ClL.nil | exact Cl.int _ _ | exact Cl.bool _ | exact Cl.bl _ | exact Cl.bs _ | exact Cl.str _ | exact Cl.nils | exact Cl.nilp | exact Cl.rec _ | exact Cl.bat _ | exact Cl.recsV _ | exact Cl.strsV _ | exact Cl.intsV _ | exact Cl.req _ | exact Cl.rsp _ | exact Cl.reqA _ | exact Cl.rspA _ | exact Cl.batsV _ | exact Cl.getB _ | exact Cl.encA _ | exact Cl.firstA _ | refine ClL.cons ?_ ?_ | refine Cl.tup ?_ | refine Cl.agg ?_ | exact ClO.RO _ _))) (fun x => by (repeat' (first | with_reducible assumption | exact ClL.nil | exact Cl.int _ _ | exact Cl.bool _ | exact Cl.bl _ | exact Cl.bs _ | exact Cl.str _ | exact Cl.nils | exact Cl.nilp | exact Cl.rec _ | exact Cl.bat _ | exact Cl.recsV _ | exact Cl.strsV _ | exact Cl.intsV _ | exact Cl.req _ | exact Cl.rsp _ | exact Cl.reqA _ | exact Cl.rspA _ | exact Cl.batsV _ | exact Cl.getB _ | exact Cl.encA _ | exact Cl.firstA _ | refine ClL.cons ?_ ?_ | refine Cl.tup ?_ | refine Cl.agg ?_ | exact ClO.RO _ _))) fun x hx => ?_
            (conv => arg 4; whnf); repeat (refine ⟨rfl, ?_⟩; conv => arg 4; whnf)
            have gx : ∀ b : Bat, b.begins p → ∃ z, b.recs[i]? = some z ∧ x.v = z.body b.first b.base ∧ x.r = recsB (b.recs.drop (i + 1)) b.first b.base ∧ x.e = 0 ∧ z.wf b.first b.base := fun b hb => by
              obtain ⟨g1, g2⟩ := hg b hb
              have hn : y6 = b.recs.length := (gF b hb).1.2.2.2.2.2.2
              obtain ⟨z, hz⟩ : ∃ z, b.recs[i]? = some z := ⟨_, List.getElem?_eq_getElem (by omega)⟩
              have hm := List.mem_of_getElem? hz
              have hfin := (chk_fine hb.1).1
              have hf := hfin.recs z hm
              have hbl := body_len hfin hf
              have hw := good_wr (p := b.enc) ⟨hb.1, rfl⟩ hm
              have ht := first_time hfin
              have hh := hfin.head
              unfold HeadBad at hh
              unfold Rec.fine at hf
              have hrl : r.length = (lenB (z.body b.first b.base)).length + (recsB (b.recs.drop (i + 1)) b.first b.base).length := by rw [g2, recsB_drop hz, List.length_append]
              have hll : (lenB (z.body b.first b.base)).length = (put ((z.body b.first b.base).length : Int)).length + (z.body b.first b.base).length := by rw [lenB, List.length_append]
              obtain ⟨q1, q2, q3⟩ := hx.2.2 _ _ (by rw [g2, recsB_drop hz]) (by omega) (by omega)
              exact ⟨z, hz, q1, q2, q3, hw, by omega, by omega, by omega, by omega⟩
            refine ⟨fun he => ?_, fun he => ?_⟩
            · have he : x.e ≠ 0 := by simpa using he
              (conv => arg 4; whnf); repeat (refine ⟨rfl, ?_⟩; conv => arg 4; whnf)
              refine ⟨⟨Bat.none, 0, 2⟩, .inr ⟨rfl, rfl, rfl, fun b hb => ?_⟩, by decide, by (repeat' (first | with_reducible exact Le.refl _ _ | exact Le.bl | exact Le.lb | exact Le.nils | exact Le.nilsFull | exact Le.none | exact LeL.nil _ | refine LeL.cons ?_ ?_ | refine Le.tup ?_ | refine Le.agg ?_ | exact Le.refl _ _ | exact LeL.refl _ _)), trivial, (by (repeat' (first | with_reducible assumption | exact ClL.nil | exact Cl.int _ _ | exact Cl.bool _ | exact Cl.bl _ | exact Cl.bs _ | exact Cl.str _ | exact Cl.nils | exact Cl.nilp | exact Cl.rec _ | exact Cl.bat _ | exact Cl.recsV _ | exact Cl.strsV _ | exact Cl.intsV _ | exact Cl.req _ | exact Cl.rsp _ | exact Cl.reqA _ | exact Cl.rspA _ | exact Cl.batsV _ | exact Cl.getB _ | exact Cl.encA _ | exact Cl.firstA _ | refine ClL.cons ?_ ?_ | refine Cl.tup ?_ | refine Cl.agg ?_ | exact ClO.RO _ _)) : Cl _) _, trivial⟩
              obtain ⟨z, -, -, -, h4, -⟩ := gx b hb
              exact he h4
            · (conv => arg 4; whnf); repeat (refine ⟨rfl, ?_⟩; conv => arg 4; whnf)
              refine call0E (refReadRec (p := x.v) (by omega)) (by (repeat' (first | with_reducible assumption | exact ClL.nil | exact Cl.int _ _ | exact Cl.bool _ | exact Cl.bl _ | exact Cl.bs _ | exact Cl.str _ | exact Cl.nils | exact Cl.nilp | exact Cl.rec _ | exact Cl.bat _ | exact Cl.recsV _ | exact Cl.strsV _ | exact Cl.intsV _ | exact Cl.req _ | exact Cl.rsp _ | exact Cl.reqA _ | exact Cl.rspA _ | exact Cl.batsV _ | exact Cl.getB _ | exact Cl.encA _ | exact Cl.firstA _ | refine ClL.cons ?_ ?_ | refine Cl.tup ?_ | refine Cl.agg ?_ | exact ClO.RO _ _))) (fun x => by (repeat' (first | with_reducible assumption | exact ClL.nil | exact Cl.int _ _ | exact Cl.bool _ | exact Cl.bl _ | exact Cl.bs _ | exact Cl.str _ | exact Cl.nils | exact Cl.nilp | exact Cl.rec _ | exact Cl.bat _ | exact Cl.recsV _ | exact Cl.strsV _ | exact Cl.intsV _ | exact Cl.req _ | exact Cl.rsp _ | exact Cl.reqA _ | exact Cl.rspA _ | exact Cl.batsV _ | exact Cl.getB _ | exact Cl.encA _ | exact Cl.firstA _ | refine ClL.cons ?_ ?_ | refine Cl.tup ?_ | refine Cl.agg ?_ | exact ClO.RO _ _))) fun z hz => ?_
              (conv => arg 4; whnf); repeat (refine ⟨rfl, ?_⟩; conv => arg 4; whnf)
              have gz : ∀ b : Bat, b.begins p → z.ok = true ∧ b.recs[i]? = some z.x ∧ x.r = recsB (b.recs.drop (i + 1)) b.first b.base := fun b hb => by
                obtain ⟨w, q1, q2, q3, -, q5⟩ := gx b hb
                obtain ⟨⟨f0, -, f2, -⟩, -⟩ := gF b hb
                rw [f0, f2] at hz
                obtain ⟨z1, z2⟩ := hz w q5 q2
                exact ⟨z1, by rw [z2]; exact q1, q3⟩
              refine ⟨fun hk => ?_, fun hk => ?_⟩
              · have hk : z.ok = false := by simpa using hk
                (conv => arg 4; whnf); repeat (refine ⟨rfl, ?_⟩; conv => arg 4; whnf)
                refine ⟨⟨Bat.none, 0, 2⟩, .inr ⟨rfl, rfl, rfl, fun b hb => ?_⟩, by decide, by (repeat' (first | with_reducible exact Le.refl _ _ | exact Le.bl | exact Le.lb | exact Le.nils | exact Le.nilsFull | exact Le.none | exact LeL.nil _ | refine LeL.cons ?_ ?_ | refine Le.tup ?_ | refine Le.agg ?_ | exact Le.refl _ _ | exact LeL.refl _ _)), trivial, (by (repeat' (first | with_reducible assumption | exact ClL.nil | exact Cl.int _ _ | exact Cl.bool _ | exact Cl.bl _ | exact Cl.bs _ | exact Cl.str _ | exact Cl.nils | exact Cl.nilp | exact Cl.rec _ | exact Cl.bat _ | exact Cl.recsV _ | exact Cl.strsV _ | exact Cl.intsV _ | exact Cl.req _ | exact Cl.rsp _ | exact Cl.reqA _ | exact Cl.rspA _ | exact Cl.batsV _ | exact Cl.getB _ | exact Cl.encA _ | exact Cl.firstA _ | refine ClL.cons ?_ ?_ | refine Cl.tup ?_ | refine Cl.agg ?_ | exact ClO.RO _ _)) : Cl _) _, trivial⟩
                have := (gz b hb).1
                rw [hk] at this; cases this
              · (conv => arg 4; whnf); repeat (refine ⟨rfl, ?_⟩; conv => arg 4; whnf)
                refine ⟨⟨rfl, sizeOk 80 rfl ?_⟩, ?_⟩
                · rw [List.length_append, recs_length, hll]; simp only [List.length_cons, List.length_nil]; omega
                (conv => arg 4; whnf); repeat (refine ⟨rfl, ?_⟩; conv => arg 4; whnf)
                refine ⟨⟨i + 1, s + 1, x.r, l ++ [z.x], by omega, by rw [List.length_append, hll]; rfl, by omega, fun b hb => ?_⟩, by show (y6 - ((i + 1 : Nat) : Int)).toNat < (y6 - (i : Int)).toNat; omega, WkG.of rfl rfl ⟨Le.of_eq (succ_int (by omega)), Le.refl _ _, Le.refl _ _, Le.refl _ _, Le.refl _ _, Le.refl _ _, Le.refl _ _, Le.refl _ _, Le.refl _ _, trivial⟩ ⟨⟨_, rfl, LeO.refl _ _⟩, ⟨_, rfl, ?_⟩, ⟨_, rfl, LeO.refl _ _⟩, trivial⟩ ⟨rfl, rfl, (by (repeat' (first | with_reducible assumption | exact ClL.nil | exact Cl.int _ _ | exact Cl.bool _ | exact Cl.bl _ | exact Cl.bs _ | exact Cl.str _ | exact Cl.nils | exact Cl.nilp | exact Cl.rec _ | exact Cl.bat _ | exact Cl.recsV _ | exact Cl.strsV _ | exact Cl.intsV _ | exact Cl.req _ | exact Cl.rsp _ | exact Cl.reqA _ | exact Cl.rspA _ | exact Cl.batsV _ | exact Cl.getB _ | exact Cl.encA _ | exact Cl.firstA _ | refine ClL.cons ?_ ?_ | refine Cl.tup ?_ | refine Cl.agg ?_ | exact ClO.RO _ _)) : Cl _) _, rfl, rfl, rfl, rfl, rfl, (by (repeat' (first | with_reducible assumption | exact ClL.nil | exact Cl.int _ _ | exact Cl.bool _ | exact Cl.bl _ | exact Cl.bs _ | exact Cl.str _ | exact Cl.nils | exact Cl.nilp | exact Cl.rec _ | exact Cl.bat _ | exact Cl.recsV _ | exact Cl.strsV _ | exact Cl.intsV _ | exact Cl.req _ | exact Cl.rsp _ | exact Cl.reqA _ | exact Cl.rspA _ | exact Cl.batsV _ | exact Cl.getB _ | exact Cl.encA _ | exact Cl.firstA _ | refine ClL.cons ?_ ?_ | refine Cl.tup ?_ | refine Cl.agg ?_ | exact ClO.RO _ _)) : Cl _) _, trivial⟩ ⟨⟨by decide, rfl⟩, ⟨by decide, ?_⟩, ⟨by decide, rfl⟩, trivial⟩⟩
                · obtain ⟨q1, q2, q3⟩ := gz b hb
                  obtain ⟨g1, g2⟩ := hg b hb
                  exact ⟨by rw [g1, List.take_add_one, q2]; rfl, q3⟩
                · have e : recsL (l ++ [z.x]) = recsL l ++ [z.x.av] := by simp [recsL]
                  rw [e]
                  exact LeL.refl _ _
                · simp only [renO, renL, ren, ren_recs, renP, cut_lt (show 2 < 3 by decide)]
          · have h : ¬ (i : Int) < y6 := by simpa using h
            conv => arg 4; whnf
            refine fin_exit ?_
            show holds _ _ _ _
            conv => arg 4; whnf
            obtain ⟨b, hb⟩ : ∃ b : Bat, b = ⟨y0, IntKind.i64.wrap (y0 + y1), y3, y4, y5, l⟩ := ⟨_, rfl⟩
            have hbl : b.recs.length ≤ 1000000 := by rw [hb]; simp only; omega
            have hav : ∀ h, Le h (.agg [.int .i64 y0, .int .i64 (IntKind.i64.wrap (y0 + y1)), .int .i64 y3, .int .i64 y4, .int .i64 y5, .sl (.tok 2 s) 6 (recsL l)]) b.av := fun h => by rw [hb]; show Le _ _ (.agg _); (repeat' (first | with_reducible exact Le.refl _ _ | exact Le.bl | exact Le.lb | exact Le.nils | exact Le.nilsFull | exact Le.none | exact LeL.nil _ | refine LeL.cons ?_ ?_ | refine Le.tup ?_ | refine Le.agg ?_ | exact Le.refl _ _ | exact LeL.refl _ _))
            refine holds_args (args' := [b.av]) ⟨hav _, trivial⟩ ?_
            refine call0 (refEnc hbl) (by (repeat' (first | with_reducible assumption | exact ClL.nil | exact Cl.int _ _ | exact Cl.bool _ | exact Cl.bl _ | exact Cl.bs _ | exact Cl.str _ | exact Cl.nils | exact Cl.nilp | exact Cl.rec _ | exact Cl.bat _ | exact Cl.recsV _ | exact Cl.strsV _ | exact Cl.intsV _ | exact Cl.req _ | exact Cl.rsp _ | exact Cl.reqA _ | exact Cl.rspA _ | exact Cl.batsV _ | exact Cl.getB _ | exact Cl.encA _ | exact Cl.firstA _ | refine ClL.cons ?_ ?_ | refine Cl.tup ?_ | refine Cl.agg ?_ | exact ClO.RO _ _))) (Cl.encA b) ?_
            (conv => arg 4; whnf); repeat (refine ⟨rfl, ?_⟩; conv => arg 4; whnf)
            have hgood : ∀ b' : Bat, b'.begins p → b = b' := fun b' hg' => by
              obtain ⟨⟨e1, e2, e3, e4, e5, e6, e7⟩, -⟩ := gF b' hg'
              obtain ⟨g1, -⟩ := hg b' hg'
              have hi' : i = b'.recs.length := by omega
              have hh := (chk_fine hg'.1).1.head
              unfold HeadBad at hh
              have ew : IntKind.i64.wrap (y0 + y1) = b'.last := by rw [IntKind.wrap_i64, e1, e2]; omega
              rw [hb, ew, e1, e4, e5, e6, g1, hi', List.take_length]
            refine ⟨b.out, ctxP_of rfl, ?_⟩
            conv => arg 4; whnf
            refine ⟨P, ctxP_of rfl, ?_⟩
            conv => arg 4; whnf
            refine ⟨fun hk => ?_, fun hk => ?_⟩
            · simp only [Bool.cond_true_left, Bool.cond_false_right, Bool.or_eq_true, Bool.and_eq_true, Bool.not_eq_true', decide_eq_true_eq, beq_iff_eq, bne_iff_ne, u8s_length, Bool.not_eq_true, gt_iff_lt, ge_iff_le] at hk
              (conv => arg 4; whnf); repeat (refine ⟨rfl, ?_⟩; conv => arg 4; whnf)
              refine ⟨⟨Bat.none, 0, 2⟩, .inr ⟨rfl, rfl, rfl, fun b' hb' => ?_⟩, by decide, by (repeat' (first | with_reducible exact Le.refl _ _ | exact Le.bl | exact Le.lb | exact Le.nils | exact Le.nilsFull | exact Le.none | exact LeL.nil _ | refine LeL.cons ?_ ?_ | refine Le.tup ?_ | refine Le.agg ?_ | exact Le.refl _ _ | exact LeL.refl _ _)), trivial, (by (repeat' (first | with_reducible assumption | exact ClL.nil | exact Cl.int _ _ | exact Cl.bool _ | exact Cl.bl _ | exact Cl.bs _ | exact Cl.str _ | exact Cl.nils | exact Cl.nilp | exact Cl.rec _ | exact Cl.bat _ | exact Cl.recsV _ | exact Cl.strsV _ | exact Cl.intsV _ | exact Cl.req _ | exact Cl.rsp _ | exact Cl.reqA _ | exact Cl.rspA _ | exact Cl.batsV _ | exact Cl.getB _ | exact Cl.encA _ | exact Cl.firstA _ | refine ClL.cons ?_ ?_ | refine Cl.tup ?_ | refine Cl.agg ?_ | exact ClO.RO _ _)) : Cl _) _, trivial⟩
              have e := hgood b' hb'
              have e2 := gP b' hb'
              subst e
              rcases hk with hk | hk
              · exact hk hb'.1
              · rw [out_yes hb'.1, ← e2] at hk
                simp at hk
            · rw [← Bool.not_eq_true] at hk; simp only [Bool.cond_true_left, Bool.cond_false_right, Bool.or_eq_true, Bool.and_eq_true, Bool.not_eq_true', decide_eq_true_eq, beq_iff_eq, bne_iff_ne, u8s_length, gt_iff_lt, ge_iff_le] at hk
              have hk1 : b.chk = 0 := by omega
              have hk2 : b.out = P := by
                by_cases h' : b.out = P
                · exact h'
                · exact absurd (.inr (by simpa using h')) hk
              rw [out_yes hk1] at hk2
              (conv => arg 4; whnf); repeat (refine ⟨rfl, ?_⟩; conv => arg 4; whnf)
              refine ⟨⟨b, P.length, 0⟩, .inl ⟨rfl, ⟨hk1, by rw [hk2, hP]; exact List.take_prefix _ _⟩, by rw [hk2], hgood⟩, by decide, Le.tup (LeL.cons (hav _) (LeL.cons (Le.of_eq (congrArg (AV.int .i64) (by rw [u8s_length] : ((u8s P).length : Int) = P.length))) (LeL.nil _))), trivial, (by (repeat' (first | with_reducible assumption | exact ClL.nil | exact Cl.int _ _ | exact Cl.bool _ | exact Cl.bl _ | exact Cl.bs _ | exact Cl.str _ | exact Cl.nils | exact Cl.nilp | exact Cl.rec _ | exact Cl.bat _ | exact Cl.recsV _ | exact Cl.strsV _ | exact Cl.intsV _ | exact Cl.req _ | exact Cl.rsp _ | exact Cl.reqA _ | exact Cl.rspA _ | exact Cl.batsV _ | exact Cl.getB _ | exact Cl.encA _ | exact Cl.firstA _ | refine ClL.cons ?_ ?_ | refine Cl.tup ?_ | refine Cl.agg ?_ | exact ClO.RO _ _)) : Cl _) _, trivial⟩

theorem refFirst' {p : List UInt8} (hl : p.length ≤ 1000000000) : CallOK Try.prog 41 [bs p] [] 0 (Out (.tup [(firstB p).av, .int .i64 (firstN p)]) [] 0) :=
  (refFirst hl).mono fun a h m ⟨x, hx, e1, e2, e3⟩ => by
    obtain ⟨q1, q2, -⟩ := first_spec hx
    rw [q1, q2] at e1
    exact ⟨e1, e2, e3⟩

theorem firstN_zero {p : List UInt8} : firstN p = 0 ↔ firstE p ≠ 0 := by
  constructor
  · intro h h0
    obtain ⟨h1, h2⟩ := first_yes h0
    have h3 : (firstB p).enc.length = 16 + (firstB p).rest.length := batE_len
    omega
  · intro h
    exact (first_no h).2.2.1

theorem refDecode {p : List UInt8} (hl : p.length ≤ 1000000000) : CallOK Try.prog 39 [bs p] [] 0 (Out (.tup [(decB p).av, .int .i64 (decE p)]) [] 0) := by
  refine CallOK.fit (by decide) ?_
  refine callOK Try.call39 Try.func39 Try.ntmps39 rfl ?_
  conv => arg 4; whnf
  refine call0 (refFirst' hl) (by (repeat' (first | with_reducible assumption | exact ClL.nil | exact Cl.int _ _ | exact Cl.bool _ | exact Cl.bl _ | exact Cl.bs _ | exact Cl.str _ | exact Cl.nils | exact Cl.nilp | exact Cl.rec _ | exact Cl.bat _ | exact Cl.recsV _ | exact Cl.strsV _ | exact Cl.intsV _ | exact Cl.req _ | exact Cl.rsp _ | exact Cl.reqA _ | exact Cl.rspA _ | exact Cl.batsV _ | exact Cl.getB _ | exact Cl.encA _ | exact Cl.firstA _ | refine ClL.cons ?_ ?_ | refine Cl.tup ?_ | refine Cl.agg ?_ | exact ClO.RO _ _))) (by (repeat' (first | with_reducible assumption | exact ClL.nil | exact Cl.int _ _ | exact Cl.bool _ | exact Cl.bl _ | exact Cl.bs _ | exact Cl.str _ | exact Cl.nils | exact Cl.nilp | exact Cl.rec _ | exact Cl.bat _ | exact Cl.recsV _ | exact Cl.strsV _ | exact Cl.intsV _ | exact Cl.req _ | exact Cl.rsp _ | exact Cl.reqA _ | exact Cl.rspA _ | exact Cl.batsV _ | exact Cl.getB _ | exact Cl.encA _ | exact Cl.firstA _ | refine ClL.cons ?_ ?_ | refine Cl.tup ?_ | refine Cl.agg ?_ | exact ClO.RO _ _))) ?_
  (conv => arg 4; whnf); repeat (refine ⟨rfl, ?_⟩; conv => arg 4; whnf)
  have hz := firstN_zero (p := p)
  refine ⟨fun h => ?_, fun h => ?_⟩
  · simp only [Bool.cond_true_left, Bool.cond_false_right, Bool.or_eq_true, Bool.and_eq_true, Bool.not_eq_true', decide_eq_true_eq, beq_iff_eq, bne_iff_ne, u8s_length, Bool.not_eq_true, gt_iff_lt, ge_iff_le] at h
    (conv => arg 4; whnf); repeat (refine ⟨rfl, ?_⟩; conv => arg 4; whnf)
    have hn : ¬ (firstE p = 0 ∧ firstN p = p.length) := by omega
    have hb : decB p = Bat.none := by
      unfold decB
      by_cases h0 : firstE p = 0
      · rw [if_neg (by omega)]
      · rw [(first_no h0).2.1]; simp
    have he : decE p = 2 := by unfold decE; rw [if_neg hn]
    refine ⟨by decide, ?_, trivial, (by (repeat' (first | with_reducible assumption | exact ClL.nil | exact Cl.int _ _ | exact Cl.bool _ | exact Cl.bl _ | exact Cl.bs _ | exact Cl.str _ | exact Cl.nils | exact Cl.nilp | exact Cl.rec _ | exact Cl.bat _ | exact Cl.recsV _ | exact Cl.strsV _ | exact Cl.intsV _ | exact Cl.req _ | exact Cl.rsp _ | exact Cl.reqA _ | exact Cl.rspA _ | exact Cl.batsV _ | exact Cl.getB _ | exact Cl.encA _ | exact Cl.firstA _ | refine ClL.cons ?_ ?_ | refine Cl.tup ?_ | refine Cl.agg ?_ | exact ClO.RO _ _)) : Cl _) _, trivial⟩
    rw [hb, he]; (repeat' (first | with_reducible exact Le.refl _ _ | exact Le.bl | exact Le.lb | exact Le.nils | exact Le.nilsFull | exact Le.none | exact LeL.nil _ | refine LeL.cons ?_ ?_ | refine Le.tup ?_ | refine Le.agg ?_ | exact Le.refl _ _ | exact LeL.refl _ _))
  · rw [← Bool.not_eq_true] at h; simp only [Bool.cond_true_left, Bool.cond_false_right, Bool.or_eq_true, Bool.and_eq_true, Bool.not_eq_true', decide_eq_true_eq, beq_iff_eq, bne_iff_ne, u8s_length, gt_iff_lt, ge_iff_le] at h
    (conv => arg 4; whnf); repeat (refine ⟨rfl, ?_⟩; conv => arg 4; whnf)
    have hy : firstE p = 0 ∧ firstN p = p.length := by omega
    have hb : decB p = firstB p := by unfold decB; rw [if_pos hy.2]
    have he : decE p = 0 := by unfold decE; rw [if_pos hy]
    refine ⟨by decide, ?_, trivial, (by (repeat' (first | with_reducible assumption | exact ClL.nil | exact Cl.int _ _ | exact Cl.bool _ | exact Cl.bl _ | exact Cl.bs _ | exact Cl.str _ | exact Cl.nils | exact Cl.nilp | exact Cl.rec _ | exact Cl.bat _ | exact Cl.recsV _ | exact Cl.strsV _ | exact Cl.intsV _ | exact Cl.req _ | exact Cl.rsp _ | exact Cl.reqA _ | exact Cl.rspA _ | exact Cl.batsV _ | exact Cl.getB _ | exact Cl.encA _ | exact Cl.firstA _ | refine ClL.cons ?_ ?_ | refine Cl.tup ?_ | refine Cl.agg ?_ | exact ClO.RO _ _)) : Cl _) _, trivial⟩
    rw [hb, he]; (repeat' (first | with_reducible exact Le.refl _ _ | exact Le.bl | exact Le.lb | exact Le.nils | exact Le.nilsFull | exact Le.none | exact LeL.nil _ | refine LeL.cons ?_ ?_ | refine Le.tup ?_ | refine Le.agg ?_ | exact Le.refl _ _ | exact LeL.refl _ _))
end Go.Proofs.Ythclmkhkchbpiaa

namespace Go.Proofs.Ythclmkhkchbpiaa
set_option maxRecDepth 100000
set_option maxHeartbeats 80000000
open Go.Sym

theorem isum_range : ∀ {xs : List Int} {n : Int}, 0 ≤ n ∧ n ≤ 1099511627776 → (∀ x ∈ xs, 0 ≤ x) → 0 ≤ isum n xs ∧ isum n xs ≤ 1099511627776
  | [], n, hn, _ => hn
  | x :: r, n, hn, hx => by
    have h0 := hx x List.mem_cons_self
    unfold isum
    split
    · omega
    · exact isum_range (by omega) fun y hy => hx y (List.mem_cons_of_mem _ hy)
theorem isum_eq : ∀ {xs : List Int} {n : Int}, 0 ≤ n ∧ n ≤ 1099511627776 → (∀ x ∈ xs, 0 ≤ x) → isum n xs < 1099511627776 → isum n xs = n + xs.sum
  | [], n, hn, _, _ => by simp [isum]
  | x :: r, n, hn, hx, hl => by
    have h0 := hx x List.mem_cons_self
    unfold isum at hl ⊢
    split at hl
    · omega
    · rename_i hc
      rw [if_neg hc, isum_eq (by omega) (fun y hy => hx y (List.mem_cons_of_mem _ hy)) hl, List.sum_cons]
      omega

def Rec.wt (r : Rec) : Nat := 1 + r.key.length + r.val.length
def wtR (l : List Rec) : Nat := (l.map Rec.wt).sum

theorem wtR_take {l : List Rec} {i : Nat} {x : Rec} (h : l[i]? = some x) : wtR (l.take (i + 1)) = wtR (l.take i) + x.wt := by
  simp [wtR, List.take_add_one, h]
theorem wtR_mem {l : List Rec} {x : Rec} (h : x ∈ l) : x.wt ≤ wtR l := by
  induction l with
  | nil => cases h
  | cons y l ih =>
    simp only [wtR, List.map_cons, List.sum_cons]
    rcases List.mem_cons.1 h with rfl | h
    · omega
    · have := ih h; unfold wtR at this; omega
theorem wtR_length (l : List Rec) : l.length ≤ wtR l := by
  induction l with
  | nil => simp
  | cons y l ih =>
    simp only [wtR, List.map_cons, List.sum_cons, List.length_cons]
    unfold wtR at ih; unfold Rec.wt at *; omega

theorem succ_i64 {i : Nat} (h : i < 1000000000000000000) : AV.int .i64 (IntKind.i64.wrap ((i : Int) + 1)) = AV.int .i64 ((i + 1 : Nat) : Int) := by
  have : IntKind.i64.wrap ((i : Int) + 1) = ((i + 1 : Nat) : Int) := by rw [IntKind.wrap_i64]; omega
  rw [this]

structure WbI (b : Bat) where
  i : Nat
  n : Int
  hi : i ≤ b.recs.length
  hn : 0 ≤ n ∧ n ≤ 1099511627776
  h : n < 1099511627776 → n = 1 + wtR (b.recs.take i)

/-- Is the weight's answer right? -/
def Weighs (n : Int) (w : Nat) : Prop := 0 ≤ n ∧ n ≤ 1099511627776 ∧ (n < 1099511627776 → n = w)

theorem alikeBatch {b : Bat} (hl : b.recs.length ≤ 1000000000000000) : CallOK Try.prog 45 [b.av] [] 0 (fun a h m => ∃ n : Int, Weighs n (1 + wtR b.recs) ∧ Out (.int .i64 n) [] 0 a h m) := by
  refine CallOK.fitE (by decide) ?_
  refine callOK Try.call45 Try.func45 Try.ntmps45 rfl ?_
  conv => arg 4; whnf
  refine tri_loopG (ι := WbI b) (fun a => ⟨[(4, .int .i64 a.i), (3, .int .i64 a.n), (1, .ptr 0 0)], [(0, batO b)], 1, 34⟩) (fun a => b.recs.length - a.i) ⟨0, 1, Nat.zero_le _, by omega, fun _ => rfl⟩ (WkG.of rfl rfl ⟨Le.refl _ _, Le.refl _ _, Le.refl _ _, trivial⟩ ⟨⟨_, rfl, LeO.refl _ _⟩, trivial⟩ ⟨rfl, rfl, rfl, trivial⟩ ⟨⟨by decide, renO_batO _ _⟩, trivial⟩) ?_
  rintro ⟨i, n, hi, hn, hh⟩
  dsimp only
  conv => arg 4; whnf
  refine ⟨fun h => ?_, fun h => ?_⟩
  · have h : i < b.recs.length ∧ n ≤ 1099511627776 := by
      rw [recs_length] at h
      simp only [Bool.cond_true_left, Bool.cond_false_right, Bool.or_eq_true, Bool.and_eq_true, Bool.not_eq_true', decide_eq_true_eq, beq_iff_eq, bne_iff_ne, u8s_length, Bool.not_eq_true, gt_iff_lt, ge_iff_le] at h
      omega
    obtain ⟨x, hx⟩ : ∃ x, b.recs[i]? = some x := ⟨_, List.getElem?_eq_getElem h.1⟩
    have hg := recs_get hx
    (conv => arg 4; whnf); repeat (refine ⟨rfl, ?_⟩; conv => arg 4; whnf)
    refine ⟨x.av, ⟨by omega, hg⟩, ?_⟩
    (conv => arg 4; whnf); repeat (refine ⟨rfl, ?_⟩; conv => arg 4; whnf)
    refine ⟨x.av, ⟨by omega, hg⟩, ?_⟩
    (conv => arg 4; whnf); repeat (refine ⟨rfl, ?_⟩; conv => arg 4; whnf)
    obtain ⟨xs, hxs⟩ : ∃ xs : List Int, xs = [1, (x.key.length : Int), (x.val.length : Int)] := ⟨_, rfl⟩
    have hx0 : ∀ y ∈ xs, 0 ≤ y := by rw [hxs]; intro y hy; simp at hy; omega
    refine holds_args (args' := [.int .i64 n, .sl .none 0 (ints xs)]) ⟨Le.refl _ _, Le.noneOf (by rw [hxs, u8s_length, u8s_length]; rfl), trivial⟩ ?_
    refine call0 (sum hn hx0 (by rw [hxs]; simp)) (ClL.cons (Cl.int _ _) (ClL.cons (Cl.sl (fun ρ => ren_ints ρ _)) ClL.nil)) (Cl.int _ _) ?_
    (conv => arg 4; whnf); repeat (refine ⟨rfl, ?_⟩; conv => arg 4; whnf)
    have hr := isum_range hn hx0
    refine ⟨⟨i + 1, isum n xs, by omega, hr, fun hlt => ?_⟩, by show b.recs.length - (i + 1) < b.recs.length - i; omega, WkG.of rfl rfl ⟨Le.of_eq (succ_i64 (by omega)), Le.refl _ _, Le.refl _ _, trivial⟩ ⟨⟨_, rfl, LeO.refl _ _⟩, trivial⟩ ⟨rfl, rfl, rfl, trivial⟩ ⟨⟨by decide, renO_batO _ _⟩, trivial⟩⟩
    have he := isum_eq hn hx0 hlt
    have hs : xs.sum = 1 + ((x.key.length : Int) + x.val.length) := by rw [hxs]; simp
    have := hh (by omega)
    rw [he, hs, wtR_take hx, Rec.wt]
    omega
  · conv => arg 4; whnf
    refine fin_exit ?_
    show holds _ _ _ _
    conv => arg 4; whnf
    refine ⟨n, ⟨hn.1, hn.2, fun hlt => ?_⟩, by decide, by (repeat' (first | with_reducible exact Le.refl _ _ | exact Le.bl | exact Le.lb | exact Le.nils | exact Le.nilsFull | exact Le.none | exact LeL.nil _ | refine LeL.cons ?_ ?_ | refine Le.tup ?_ | refine Le.agg ?_ | exact Le.refl _ _ | exact LeL.refl _ _)), trivial, (by (repeat' (first | with_reducible assumption | exact ClL.nil | exact Cl.int _ _ | exact Cl.bool _ | exact Cl.bl _ | exact Cl.bs _ | exact Cl.str _ | exact Cl.nils | exact Cl.nilp | exact Cl.rec _ | exact Cl.bat _ | exact Cl.recsV _ | exact Cl.strsV _ | exact Cl.intsV _ | exact Cl.req _ | exact Cl.rsp _ | exact Cl.reqA _ | exact Cl.rspA _ | exact Cl.batsV _ | exact Cl.getB _ | exact Cl.encA _ | exact Cl.firstA _ | refine ClL.cons ?_ ?_ | refine Cl.tup ?_ | refine Cl.agg ?_ | exact ClO.RO _ _)) : Cl _) _, trivial⟩
    rw [recs_length] at h
    rw [← Bool.not_eq_true] at h; simp only [Bool.cond_true_left, Bool.cond_false_right, Bool.or_eq_true, Bool.and_eq_true, Bool.not_eq_true', decide_eq_true_eq, beq_iff_eq, bne_iff_ne, u8s_length, gt_iff_lt, ge_iff_le] at h
    have := hh hlt
    have hi' : i = b.recs.length := by omega
    rw [hi', List.take_length] at this
    omega

theorem fine0 {b : Bat} (h : ¬ HeadBad b) (hr : b.recs = []) : b.chk = 0 ∧ b.enc.length = 50 := by
  have h1 : b.enc.length = 50 := by
    rw [batE_len, Bat.rest, List.length_append, head_len, hr]; rfl
  refine ⟨?_, h1⟩
  refine chk_ok h (by rw [hr]; simp) (by rw [hr]; rfl) (by omega)

theorem awake5 : CallOK Try.prog 37 [] [] 0 (Out (.bool true) [] 0) := by
  refine CallOK.fit (by decide) ?_
  refine callOK Try.call37 Try.func37 Try.ntmps37 rfl ?_
  conv => arg 4; whnf
  refine holds_args (args' := [(⟨5, 5, 0, 0, 0, []⟩ : Bat).av]) ⟨by show Le _ (.agg _) (.agg _); (repeat' (first | with_reducible exact Le.refl _ _ | exact Le.bl | exact Le.lb | exact Le.nils | exact Le.nilsFull | exact Le.none | exact LeL.nil _ | refine LeL.cons ?_ ?_ | refine Le.tup ?_ | refine Le.agg ?_ | exact Le.refl _ _ | exact LeL.refl _ _)), trivial⟩ ?_
  have f0 := fine0 (b := ⟨5, 5, 0, 0, 0, []⟩) (by unfold HeadBad; simp) rfl
  refine call0 (batEnc (by decide)) (by (repeat' (first | with_reducible assumption | exact ClL.nil | exact Cl.int _ _ | exact Cl.bool _ | exact Cl.bl _ | exact Cl.bs _ | exact Cl.str _ | exact Cl.nils | exact Cl.nilp | exact Cl.rec _ | exact Cl.bat _ | exact Cl.recsV _ | exact Cl.strsV _ | exact Cl.intsV _ | exact Cl.req _ | exact Cl.rsp _ | exact Cl.reqA _ | exact Cl.rspA _ | exact Cl.batsV _ | exact Cl.getB _ | exact Cl.encA _ | exact Cl.firstA _ | refine ClL.cons ?_ ?_ | refine Cl.tup ?_ | refine Cl.agg ?_ | exact ClO.RO _ _))) (Cl.encA _) ?_
  rw [encA_yes f0.1]
  (conv => arg 4; whnf); repeat (refine ⟨rfl, ?_⟩; conv => arg 4; whnf)
  refine holds_args (args' := [bs []]) ⟨Le.nils, trivial⟩ ?_
  have d0 : decE [] = 2 := by
    unfold decE
    rw [if_neg]
    rintro ⟨h1, h2⟩
    exact firstN_zero.1 h2 h1
  refine call0 (batDecode (p := []) (by decide)) (by (repeat' (first | with_reducible assumption | exact ClL.nil | exact Cl.int _ _ | exact Cl.bool _ | exact Cl.bl _ | exact Cl.bs _ | exact Cl.str _ | exact Cl.nils | exact Cl.nilp | exact Cl.rec _ | exact Cl.bat _ | exact Cl.recsV _ | exact Cl.strsV _ | exact Cl.intsV _ | exact Cl.req _ | exact Cl.rsp _ | exact Cl.reqA _ | exact Cl.rspA _ | exact Cl.batsV _ | exact Cl.getB _ | exact Cl.encA _ | exact Cl.firstA _ | refine ClL.cons ?_ ?_ | refine Cl.tup ?_ | refine Cl.agg ?_ | exact ClO.RO _ _))) (by (repeat' (first | with_reducible assumption | exact ClL.nil | exact Cl.int _ _ | exact Cl.bool _ | exact Cl.bl _ | exact Cl.bs _ | exact Cl.str _ | exact Cl.nils | exact Cl.nilp | exact Cl.rec _ | exact Cl.bat _ | exact Cl.recsV _ | exact Cl.strsV _ | exact Cl.intsV _ | exact Cl.req _ | exact Cl.rsp _ | exact Cl.reqA _ | exact Cl.rspA _ | exact Cl.batsV _ | exact Cl.getB _ | exact Cl.encA _ | exact Cl.firstA _ | refine ClL.cons ?_ ?_ | refine Cl.tup ?_ | refine Cl.agg ?_ | exact ClO.RO _ _))) ?_
  rw [d0]
  (conv => arg 4; whnf); repeat (refine ⟨rfl, ?_⟩; conv => arg 4; whnf)
  have e5 : (((u8s (Bat.enc ⟨5, 5, 0, 0, 0, []⟩)).length : Int) == 50) = true := by rw [u8s_length, f0.2]; rfl
  rw [e5]
  refine ⟨fun _ => ?_, fun h => absurd h (by decide)⟩
  (conv => arg 4; whnf); repeat (refine ⟨rfl, ?_⟩; conv => arg 4; whnf)
  refine holds_args (args' := [(⟨1, 0, 0, 0, 0, []⟩ : Bat).av]) ⟨by show Le _ (.agg _) (.agg _); (repeat' (first | with_reducible exact Le.refl _ _ | exact Le.bl | exact Le.lb | exact Le.nils | exact Le.nilsFull | exact Le.none | exact LeL.nil _ | refine LeL.cons ?_ ?_ | refine Le.tup ?_ | refine Le.agg ?_ | exact Le.refl _ _ | exact LeL.refl _ _)), trivial⟩ ?_
  have c1 : Bat.chk ⟨1, 0, 0, 0, 0, []⟩ = 1 := chk_head (by unfold HeadBad; simp)
  refine call0 (batCheck (by decide)) (by (repeat' (first | with_reducible assumption | exact ClL.nil | exact Cl.int _ _ | exact Cl.bool _ | exact Cl.bl _ | exact Cl.bs _ | exact Cl.str _ | exact Cl.nils | exact Cl.nilp | exact Cl.rec _ | exact Cl.bat _ | exact Cl.recsV _ | exact Cl.strsV _ | exact Cl.intsV _ | exact Cl.req _ | exact Cl.rsp _ | exact Cl.reqA _ | exact Cl.rspA _ | exact Cl.batsV _ | exact Cl.getB _ | exact Cl.encA _ | exact Cl.firstA _ | refine ClL.cons ?_ ?_ | refine Cl.tup ?_ | refine Cl.agg ?_ | exact ClO.RO _ _))) (by (repeat' (first | with_reducible assumption | exact ClL.nil | exact Cl.int _ _ | exact Cl.bool _ | exact Cl.bl _ | exact Cl.bs _ | exact Cl.str _ | exact Cl.nils | exact Cl.nilp | exact Cl.rec _ | exact Cl.bat _ | exact Cl.recsV _ | exact Cl.strsV _ | exact Cl.intsV _ | exact Cl.req _ | exact Cl.rsp _ | exact Cl.reqA _ | exact Cl.rspA _ | exact Cl.batsV _ | exact Cl.getB _ | exact Cl.encA _ | exact Cl.firstA _ | refine ClL.cons ?_ ?_ | refine Cl.tup ?_ | refine Cl.agg ?_ | exact ClO.RO _ _))) ?_
  rw [c1]
  (conv => arg 4; whnf); repeat (refine ⟨rfl, ?_⟩; conv => arg 4; whnf)
  exact ⟨by decide, by (repeat' (first | with_reducible exact Le.refl _ _ | exact Le.bl | exact Le.lb | exact Le.nils | exact Le.nilsFull | exact Le.none | exact LeL.nil _ | refine LeL.cons ?_ ?_ | refine Le.tup ?_ | refine Le.agg ?_ | exact Le.refl _ _ | exact LeL.refl _ _)), trivial, (by (repeat' (first | with_reducible assumption | exact ClL.nil | exact Cl.int _ _ | exact Cl.bool _ | exact Cl.bl _ | exact Cl.bs _ | exact Cl.str _ | exact Cl.nils | exact Cl.nilp | exact Cl.rec _ | exact Cl.bat _ | exact Cl.recsV _ | exact Cl.strsV _ | exact Cl.intsV _ | exact Cl.req _ | exact Cl.rsp _ | exact Cl.reqA _ | exact Cl.rspA _ | exact Cl.batsV _ | exact Cl.getB _ | exact Cl.encA _ | exact Cl.firstA _ | refine ClL.cons ?_ ?_ | refine Cl.tup ?_ | refine Cl.agg ?_ | exact ClO.RO _ _)) : Cl _) _, trivial⟩
end Go.Proofs.Ythclmkhkchbpiaa

namespace Go.Proofs.Ythclmkhkchbpiaa
set_option maxRecDepth 100000
set_option maxHeartbeats 80000000
open Go.Sym

abbrev Tru (a : AV) (_ : Heap) (_ : Nat) : Prop := a = .bool true ∨ a = .bl true

theorem weighs_le {n : Int} {w : Nat} (h : Weighs n w) (k : n ≤ 5000) : w ≤ 5000 := by
  have := h.2.2 (by omega)
  omega

theorem lawSame {a b : Bat} (ha : a.recs.length ≤ 1000000000000000) (hb : b.recs.length ≤ 1000000000000000) : CallOK Try.prog 10 [a.av, b.av] [] 0 Tru := by
  refine callOK Try.call10 Try.func10 Try.ntmps10 rfl ?_
  conv => arg 4; whnf
  refine call0E (alikeBatch ha) (by (repeat' (first | with_reducible assumption | exact ClL.nil | exact Cl.int _ _ | exact Cl.bool _ | exact Cl.bl _ | exact Cl.bs _ | exact Cl.str _ | exact Cl.nils | exact Cl.nilp | exact Cl.rec _ | exact Cl.bat _ | exact Cl.recsV _ | exact Cl.strsV _ | exact Cl.intsV _ | exact Cl.req _ | exact Cl.rsp _ | exact Cl.reqA _ | exact Cl.rspA _ | exact Cl.batsV _ | exact Cl.getB _ | exact Cl.encA _ | exact Cl.firstA _ | refine ClL.cons ?_ ?_ | refine Cl.tup ?_ | refine Cl.agg ?_ | exact ClO.RO _ _))) (fun x => by (repeat' (first | with_reducible assumption | exact ClL.nil | exact Cl.int _ _ | exact Cl.bool _ | exact Cl.bl _ | exact Cl.bs _ | exact Cl.str _ | exact Cl.nils | exact Cl.nilp | exact Cl.rec _ | exact Cl.bat _ | exact Cl.recsV _ | exact Cl.strsV _ | exact Cl.intsV _ | exact Cl.req _ | exact Cl.rsp _ | exact Cl.reqA _ | exact Cl.rspA _ | exact Cl.batsV _ | exact Cl.getB _ | exact Cl.encA _ | exact Cl.firstA _ | refine ClL.cons ?_ ?_ | refine Cl.tup ?_ | refine Cl.agg ?_ | exact ClO.RO _ _))) fun n hn => ?_
  (conv => arg 4; whnf); repeat (refine ⟨rfl, ?_⟩; conv => arg 4; whnf)
  refine call0E (alikeBatch hb) (by (repeat' (first | with_reducible assumption | exact ClL.nil | exact Cl.int _ _ | exact Cl.bool _ | exact Cl.bl _ | exact Cl.bs _ | exact Cl.str _ | exact Cl.nils | exact Cl.nilp | exact Cl.rec _ | exact Cl.bat _ | exact Cl.recsV _ | exact Cl.strsV _ | exact Cl.intsV _ | exact Cl.req _ | exact Cl.rsp _ | exact Cl.reqA _ | exact Cl.rspA _ | exact Cl.batsV _ | exact Cl.getB _ | exact Cl.encA _ | exact Cl.firstA _ | refine ClL.cons ?_ ?_ | refine Cl.tup ?_ | refine Cl.agg ?_ | exact ClO.RO _ _))) (fun x => by (repeat' (first | with_reducible assumption | exact ClL.nil | exact Cl.int _ _ | exact Cl.bool _ | exact Cl.bl _ | exact Cl.bs _ | exact Cl.str _ | exact Cl.nils | exact Cl.nilp | exact Cl.rec _ | exact Cl.bat _ | exact Cl.recsV _ | exact Cl.strsV _ | exact Cl.intsV _ | exact Cl.req _ | exact Cl.rsp _ | exact Cl.reqA _ | exact Cl.rspA _ | exact Cl.batsV _ | exact Cl.getB _ | exact Cl.encA _ | exact Cl.firstA _ | refine ClL.cons ?_ ?_ | refine Cl.tup ?_ | refine Cl.agg ?_ | exact ClO.RO _ _))) fun m hm => ?_
  (conv => arg 4; whnf); repeat (refine ⟨rfl, ?_⟩; conv => arg 4; whnf)
  have hx0 : ∀ y ∈ [m], 0 ≤ y := by intro y hy; simp at hy; have := hm.1; omega
  refine holds_args (args' := [.int .i64 n, .sl .none 0 (ints [m])]) ⟨Le.refl _ _, Le.noneOf rfl, trivial⟩ ?_
  refine call0 (sum ⟨hn.1, hn.2.1⟩ hx0 (by simp)) (ClL.cons (Cl.int _ _) (ClL.cons (Cl.sl (fun ρ => ren_ints ρ _)) ClL.nil)) (Cl.int _ _) ?_
  have he := isum_eq ⟨hn.1, hn.2.1⟩ hx0
  (conv => arg 4; whnf); repeat (refine ⟨rfl, ?_⟩; conv => arg 4; whnf)
  refine ⟨fun h => ?_, fun h => ?_⟩
  · (conv => arg 4; whnf); repeat (refine ⟨rfl, ?_⟩; conv => arg 4; whnf)
    refine call0 awake5 (by (repeat' (first | with_reducible assumption | exact ClL.nil | exact Cl.int _ _ | exact Cl.bool _ | exact Cl.bl _ | exact Cl.bs _ | exact Cl.str _ | exact Cl.nils | exact Cl.nilp | exact Cl.rec _ | exact Cl.bat _ | exact Cl.recsV _ | exact Cl.strsV _ | exact Cl.intsV _ | exact Cl.req _ | exact Cl.rsp _ | exact Cl.reqA _ | exact Cl.rspA _ | exact Cl.batsV _ | exact Cl.getB _ | exact Cl.encA _ | exact Cl.firstA _ | refine ClL.cons ?_ ?_ | refine Cl.tup ?_ | refine Cl.agg ?_ | exact ClO.RO _ _))) (by (repeat' (first | with_reducible assumption | exact ClL.nil | exact Cl.int _ _ | exact Cl.bool _ | exact Cl.bl _ | exact Cl.bs _ | exact Cl.str _ | exact Cl.nils | exact Cl.nilp | exact Cl.rec _ | exact Cl.bat _ | exact Cl.recsV _ | exact Cl.strsV _ | exact Cl.intsV _ | exact Cl.req _ | exact Cl.rsp _ | exact Cl.reqA _ | exact Cl.rspA _ | exact Cl.batsV _ | exact Cl.getB _ | exact Cl.encA _ | exact Cl.firstA _ | refine ClL.cons ?_ ?_ | refine Cl.tup ?_ | refine Cl.agg ?_ | exact ClO.RO _ _))) ?_
    (conv => arg 4; whnf); repeat (refine ⟨rfl, ?_⟩; conv => arg 4; whnf)
    exact .inl rfl
  · have h : isum n [m] ≤ 5000 := by simpa using h
    rw [he (by omega)] at h
    simp only [List.sum_cons, List.sum_nil] at h
    have hn0 := hn.1
    have hm0 := hm.1
    have wa := weighs_le hn (by omega)
    have wb := weighs_le hm (by omega)
    have la := wtR_length a.recs
    have lb := wtR_length b.recs
    (conv => arg 4; whnf); repeat (refine ⟨rfl, ?_⟩; conv => arg 4; whnf)
    refine call0 (batSame (a := a) (b := b) (by omega)) (by (repeat' (first | with_reducible assumption | exact ClL.nil | exact Cl.int _ _ | exact Cl.bool _ | exact Cl.bl _ | exact Cl.bs _ | exact Cl.str _ | exact Cl.nils | exact Cl.nilp | exact Cl.rec _ | exact Cl.bat _ | exact Cl.recsV _ | exact Cl.strsV _ | exact Cl.intsV _ | exact Cl.req _ | exact Cl.rsp _ | exact Cl.reqA _ | exact Cl.rspA _ | exact Cl.batsV _ | exact Cl.getB _ | exact Cl.encA _ | exact Cl.firstA _ | refine ClL.cons ?_ ?_ | refine Cl.tup ?_ | refine Cl.agg ?_ | exact ClO.RO _ _))) (by (repeat' (first | with_reducible assumption | exact ClL.nil | exact Cl.int _ _ | exact Cl.bool _ | exact Cl.bl _ | exact Cl.bs _ | exact Cl.str _ | exact Cl.nils | exact Cl.nilp | exact Cl.rec _ | exact Cl.bat _ | exact Cl.recsV _ | exact Cl.strsV _ | exact Cl.intsV _ | exact Cl.req _ | exact Cl.rsp _ | exact Cl.reqA _ | exact Cl.rspA _ | exact Cl.batsV _ | exact Cl.getB _ | exact Cl.encA _ | exact Cl.firstA _ | refine ClL.cons ?_ ?_ | refine Cl.tup ?_ | refine Cl.agg ?_ | exact ClO.RO _ _))) ?_
    (conv => arg 4; whnf); repeat (refine ⟨rfl, ?_⟩; conv => arg 4; whnf)
    refine call0 (refSame (a := a) (b := b) (by omega)) (by (repeat' (first | with_reducible assumption | exact ClL.nil | exact Cl.int _ _ | exact Cl.bool _ | exact Cl.bl _ | exact Cl.bs _ | exact Cl.str _ | exact Cl.nils | exact Cl.nilp | exact Cl.rec _ | exact Cl.bat _ | exact Cl.recsV _ | exact Cl.strsV _ | exact Cl.intsV _ | exact Cl.req _ | exact Cl.rsp _ | exact Cl.reqA _ | exact Cl.rspA _ | exact Cl.batsV _ | exact Cl.getB _ | exact Cl.encA _ | exact Cl.firstA _ | refine ClL.cons ?_ ?_ | refine Cl.tup ?_ | refine Cl.agg ?_ | exact ClO.RO _ _))) (by (repeat' (first | with_reducible assumption | exact ClL.nil | exact Cl.int _ _ | exact Cl.bool _ | exact Cl.bl _ | exact Cl.bs _ | exact Cl.str _ | exact Cl.nils | exact Cl.nilp | exact Cl.rec _ | exact Cl.bat _ | exact Cl.recsV _ | exact Cl.strsV _ | exact Cl.intsV _ | exact Cl.req _ | exact Cl.rsp _ | exact Cl.reqA _ | exact Cl.rspA _ | exact Cl.batsV _ | exact Cl.getB _ | exact Cl.encA _ | exact Cl.firstA _ | refine ClL.cons ?_ ?_ | refine Cl.tup ?_ | refine Cl.agg ?_ | exact ClO.RO _ _))) ?_
    (conv => arg 4; whnf); repeat (refine ⟨rfl, ?_⟩; conv => arg 4; whnf)
    refine ⟨fun _ => ?_, fun h => absurd h (by first | (simp; done) | (simp [u8s]; done))⟩
    conv => arg 4; whnf
    refine call0 (batSame (a := b) (b := a) (by omega)) (by (repeat' (first | with_reducible assumption | exact ClL.nil | exact Cl.int _ _ | exact Cl.bool _ | exact Cl.bl _ | exact Cl.bs _ | exact Cl.str _ | exact Cl.nils | exact Cl.nilp | exact Cl.rec _ | exact Cl.bat _ | exact Cl.recsV _ | exact Cl.strsV _ | exact Cl.intsV _ | exact Cl.req _ | exact Cl.rsp _ | exact Cl.reqA _ | exact Cl.rspA _ | exact Cl.batsV _ | exact Cl.getB _ | exact Cl.encA _ | exact Cl.firstA _ | refine ClL.cons ?_ ?_ | refine Cl.tup ?_ | refine Cl.agg ?_ | exact ClO.RO _ _))) (by (repeat' (first | with_reducible assumption | exact ClL.nil | exact Cl.int _ _ | exact Cl.bool _ | exact Cl.bl _ | exact Cl.bs _ | exact Cl.str _ | exact Cl.nils | exact Cl.nilp | exact Cl.rec _ | exact Cl.bat _ | exact Cl.recsV _ | exact Cl.strsV _ | exact Cl.intsV _ | exact Cl.req _ | exact Cl.rsp _ | exact Cl.reqA _ | exact Cl.rspA _ | exact Cl.batsV _ | exact Cl.getB _ | exact Cl.encA _ | exact Cl.firstA _ | refine ClL.cons ?_ ?_ | refine Cl.tup ?_ | refine Cl.agg ?_ | exact ClO.RO _ _))) ?_
    (conv => arg 4; whnf); repeat (refine ⟨rfl, ?_⟩; conv => arg 4; whnf)
    refine call0 (batSame (a := a) (b := b) (by omega)) (by (repeat' (first | with_reducible assumption | exact ClL.nil | exact Cl.int _ _ | exact Cl.bool _ | exact Cl.bl _ | exact Cl.bs _ | exact Cl.str _ | exact Cl.nils | exact Cl.nilp | exact Cl.rec _ | exact Cl.bat _ | exact Cl.recsV _ | exact Cl.strsV _ | exact Cl.intsV _ | exact Cl.req _ | exact Cl.rsp _ | exact Cl.reqA _ | exact Cl.rspA _ | exact Cl.batsV _ | exact Cl.getB _ | exact Cl.encA _ | exact Cl.firstA _ | refine ClL.cons ?_ ?_ | refine Cl.tup ?_ | refine Cl.agg ?_ | exact ClO.RO _ _))) (by (repeat' (first | with_reducible assumption | exact ClL.nil | exact Cl.int _ _ | exact Cl.bool _ | exact Cl.bl _ | exact Cl.bs _ | exact Cl.str _ | exact Cl.nils | exact Cl.nilp | exact Cl.rec _ | exact Cl.bat _ | exact Cl.recsV _ | exact Cl.strsV _ | exact Cl.intsV _ | exact Cl.req _ | exact Cl.rsp _ | exact Cl.reqA _ | exact Cl.rspA _ | exact Cl.batsV _ | exact Cl.getB _ | exact Cl.encA _ | exact Cl.firstA _ | refine ClL.cons ?_ ?_ | refine Cl.tup ?_ | refine Cl.agg ?_ | exact ClO.RO _ _))) ?_
    (conv => arg 4; whnf); repeat (refine ⟨rfl, ?_⟩; conv => arg 4; whnf)
    have hc : (decide (b = a) == decide (a = b)) = true := by by_cases q : a = b <;> simp [q, eq_comm]
    refine ⟨fun _ => ?_, fun h' => absurd hc (by simp only [h']; simp)⟩
    (conv => arg 4; whnf); repeat (refine ⟨rfl, ?_⟩; conv => arg 4; whnf)
    refine call0 awake5 (by (repeat' (first | with_reducible assumption | exact ClL.nil | exact Cl.int _ _ | exact Cl.bool _ | exact Cl.bl _ | exact Cl.bs _ | exact Cl.str _ | exact Cl.nils | exact Cl.nilp | exact Cl.rec _ | exact Cl.bat _ | exact Cl.recsV _ | exact Cl.strsV _ | exact Cl.intsV _ | exact Cl.req _ | exact Cl.rsp _ | exact Cl.reqA _ | exact Cl.rspA _ | exact Cl.batsV _ | exact Cl.getB _ | exact Cl.encA _ | exact Cl.firstA _ | refine ClL.cons ?_ ?_ | refine Cl.tup ?_ | refine Cl.agg ?_ | exact ClO.RO _ _))) (by (repeat' (first | with_reducible assumption | exact ClL.nil | exact Cl.int _ _ | exact Cl.bool _ | exact Cl.bl _ | exact Cl.bs _ | exact Cl.str _ | exact Cl.nils | exact Cl.nilp | exact Cl.rec _ | exact Cl.bat _ | exact Cl.recsV _ | exact Cl.strsV _ | exact Cl.intsV _ | exact Cl.req _ | exact Cl.rsp _ | exact Cl.reqA _ | exact Cl.rspA _ | exact Cl.batsV _ | exact Cl.getB _ | exact Cl.encA _ | exact Cl.firstA _ | refine ClL.cons ?_ ?_ | refine Cl.tup ?_ | refine Cl.agg ?_ | exact ClO.RO _ _))) ?_
    (conv => arg 4; whnf); repeat (refine ⟨rfl, ?_⟩; conv => arg 4; whnf)
    exact .inl rfl

theorem lawWrites {b : Bat} (hb : b.recs.length ≤ 1000000000000000) : CallOK Try.prog 11 [b.av] [] 0 Tru := by
  refine callOK Try.call11 Try.func11 Try.ntmps11 rfl ?_
  conv => arg 4; whnf
  refine call0E (alikeBatch hb) (by (repeat' (first | with_reducible assumption | exact ClL.nil | exact Cl.int _ _ | exact Cl.bool _ | exact Cl.bl _ | exact Cl.bs _ | exact Cl.str _ | exact Cl.nils | exact Cl.nilp | exact Cl.rec _ | exact Cl.bat _ | exact Cl.recsV _ | exact Cl.strsV _ | exact Cl.intsV _ | exact Cl.req _ | exact Cl.rsp _ | exact Cl.reqA _ | exact Cl.rspA _ | exact Cl.batsV _ | exact Cl.getB _ | exact Cl.encA _ | exact Cl.firstA _ | refine ClL.cons ?_ ?_ | refine Cl.tup ?_ | refine Cl.agg ?_ | exact ClO.RO _ _))) (fun x => by (repeat' (first | with_reducible assumption | exact ClL.nil | exact Cl.int _ _ | exact Cl.bool _ | exact Cl.bl _ | exact Cl.bs _ | exact Cl.str _ | exact Cl.nils | exact Cl.nilp | exact Cl.rec _ | exact Cl.bat _ | exact Cl.recsV _ | exact Cl.strsV _ | exact Cl.intsV _ | exact Cl.req _ | exact Cl.rsp _ | exact Cl.reqA _ | exact Cl.rspA _ | exact Cl.batsV _ | exact Cl.getB _ | exact Cl.encA _ | exact Cl.firstA _ | refine ClL.cons ?_ ?_ | refine Cl.tup ?_ | refine Cl.agg ?_ | exact ClO.RO _ _))) fun n hn => ?_
  (conv => arg 4; whnf); repeat (refine ⟨rfl, ?_⟩; conv => arg 4; whnf)
  refine ⟨fun h => ?_, fun h => ?_⟩
  · (conv => arg 4; whnf); repeat (refine ⟨rfl, ?_⟩; conv => arg 4; whnf)
    refine call0 awake5 (by (repeat' (first | with_reducible assumption | exact ClL.nil | exact Cl.int _ _ | exact Cl.bool _ | exact Cl.bl _ | exact Cl.bs _ | exact Cl.str _ | exact Cl.nils | exact Cl.nilp | exact Cl.rec _ | exact Cl.bat _ | exact Cl.recsV _ | exact Cl.strsV _ | exact Cl.intsV _ | exact Cl.req _ | exact Cl.rsp _ | exact Cl.reqA _ | exact Cl.rspA _ | exact Cl.batsV _ | exact Cl.getB _ | exact Cl.encA _ | exact Cl.firstA _ | refine ClL.cons ?_ ?_ | refine Cl.tup ?_ | refine Cl.agg ?_ | exact ClO.RO _ _))) (by (repeat' (first | with_reducible assumption | exact ClL.nil | exact Cl.int _ _ | exact Cl.bool _ | exact Cl.bl _ | exact Cl.bs _ | exact Cl.str _ | exact Cl.nils | exact Cl.nilp | exact Cl.rec _ | exact Cl.bat _ | exact Cl.recsV _ | exact Cl.strsV _ | exact Cl.intsV _ | exact Cl.req _ | exact Cl.rsp _ | exact Cl.reqA _ | exact Cl.rspA _ | exact Cl.batsV _ | exact Cl.getB _ | exact Cl.encA _ | exact Cl.firstA _ | refine ClL.cons ?_ ?_ | refine Cl.tup ?_ | refine Cl.agg ?_ | exact ClO.RO _ _))) ?_
    (conv => arg 4; whnf); repeat (refine ⟨rfl, ?_⟩; conv => arg 4; whnf)
    exact .inl rfl
  · rw [recs_length] at h
    rw [← Bool.not_eq_true] at h; simp only [Bool.cond_true_left, Bool.cond_false_right, Bool.or_eq_true, Bool.and_eq_true, Bool.not_eq_true', decide_eq_true_eq, beq_iff_eq, bne_iff_ne, u8s_length, gt_iff_lt, ge_iff_le] at h
    have wb := weighs_le hn (by omega)
    have lb := wtR_length b.recs
    (conv => arg 4; whnf); repeat (refine ⟨rfl, ?_⟩; conv => arg 4; whnf)
    refine call0 (batEnc (by omega)) (by (repeat' (first | with_reducible assumption | exact ClL.nil | exact Cl.int _ _ | exact Cl.bool _ | exact Cl.bl _ | exact Cl.bs _ | exact Cl.str _ | exact Cl.nils | exact Cl.nilp | exact Cl.rec _ | exact Cl.bat _ | exact Cl.recsV _ | exact Cl.strsV _ | exact Cl.intsV _ | exact Cl.req _ | exact Cl.rsp _ | exact Cl.reqA _ | exact Cl.rspA _ | exact Cl.batsV _ | exact Cl.getB _ | exact Cl.encA _ | exact Cl.firstA _ | refine ClL.cons ?_ ?_ | refine Cl.tup ?_ | refine Cl.agg ?_ | exact ClO.RO _ _))) (by (repeat' (first | with_reducible assumption | exact ClL.nil | exact Cl.int _ _ | exact Cl.bool _ | exact Cl.bl _ | exact Cl.bs _ | exact Cl.str _ | exact Cl.nils | exact Cl.nilp | exact Cl.rec _ | exact Cl.bat _ | exact Cl.recsV _ | exact Cl.strsV _ | exact Cl.intsV _ | exact Cl.req _ | exact Cl.rsp _ | exact Cl.reqA _ | exact Cl.rspA _ | exact Cl.batsV _ | exact Cl.getB _ | exact Cl.encA _ | exact Cl.firstA _ | refine ClL.cons ?_ ?_ | refine Cl.tup ?_ | refine Cl.agg ?_ | exact ClO.RO _ _))) ?_
    (conv => arg 4; whnf); repeat (refine ⟨rfl, ?_⟩; conv => arg 4; whnf)
    refine call0 (refEnc (by omega)) (by (repeat' (first | with_reducible assumption | exact ClL.nil | exact Cl.int _ _ | exact Cl.bool _ | exact Cl.bl _ | exact Cl.bs _ | exact Cl.str _ | exact Cl.nils | exact Cl.nilp | exact Cl.rec _ | exact Cl.bat _ | exact Cl.recsV _ | exact Cl.strsV _ | exact Cl.intsV _ | exact Cl.req _ | exact Cl.rsp _ | exact Cl.reqA _ | exact Cl.rspA _ | exact Cl.batsV _ | exact Cl.getB _ | exact Cl.encA _ | exact Cl.firstA _ | refine ClL.cons ?_ ?_ | refine Cl.tup ?_ | refine Cl.agg ?_ | exact ClO.RO _ _))) (by (repeat' (first | with_reducible assumption | exact ClL.nil | exact Cl.int _ _ | exact Cl.bool _ | exact Cl.bl _ | exact Cl.bs _ | exact Cl.str _ | exact Cl.nils | exact Cl.nilp | exact Cl.rec _ | exact Cl.bat _ | exact Cl.recsV _ | exact Cl.strsV _ | exact Cl.intsV _ | exact Cl.req _ | exact Cl.rsp _ | exact Cl.reqA _ | exact Cl.rspA _ | exact Cl.batsV _ | exact Cl.getB _ | exact Cl.encA _ | exact Cl.firstA _ | refine ClL.cons ?_ ?_ | refine Cl.tup ?_ | refine Cl.agg ?_ | exact ClO.RO _ _))) ?_
    (conv => arg 4; whnf); repeat (refine ⟨rfl, ?_⟩; conv => arg 4; whnf)
    refine call0 (batTimes (by omega)) (by (repeat' (first | with_reducible assumption | exact ClL.nil | exact Cl.int _ _ | exact Cl.bool _ | exact Cl.bl _ | exact Cl.bs _ | exact Cl.str _ | exact Cl.nils | exact Cl.nilp | exact Cl.rec _ | exact Cl.bat _ | exact Cl.recsV _ | exact Cl.strsV _ | exact Cl.intsV _ | exact Cl.req _ | exact Cl.rsp _ | exact Cl.reqA _ | exact Cl.rspA _ | exact Cl.batsV _ | exact Cl.getB _ | exact Cl.encA _ | exact Cl.firstA _ | refine ClL.cons ?_ ?_ | refine Cl.tup ?_ | refine Cl.agg ?_ | exact ClO.RO _ _))) (by (repeat' (first | with_reducible assumption | exact ClL.nil | exact Cl.int _ _ | exact Cl.bool _ | exact Cl.bl _ | exact Cl.bs _ | exact Cl.str _ | exact Cl.nils | exact Cl.nilp | exact Cl.rec _ | exact Cl.bat _ | exact Cl.recsV _ | exact Cl.strsV _ | exact Cl.intsV _ | exact Cl.req _ | exact Cl.rsp _ | exact Cl.reqA _ | exact Cl.rspA _ | exact Cl.batsV _ | exact Cl.getB _ | exact Cl.encA _ | exact Cl.firstA _ | refine ClL.cons ?_ ?_ | refine Cl.tup ?_ | refine Cl.agg ?_ | exact ClO.RO _ _))) ?_
    (conv => arg 4; whnf); repeat (refine ⟨rfl, ?_⟩; conv => arg 4; whnf)
    refine call0 (refTimes (by omega)) (by (repeat' (first | with_reducible assumption | exact ClL.nil | exact Cl.int _ _ | exact Cl.bool _ | exact Cl.bl _ | exact Cl.bs _ | exact Cl.str _ | exact Cl.nils | exact Cl.nilp | exact Cl.rec _ | exact Cl.bat _ | exact Cl.recsV _ | exact Cl.strsV _ | exact Cl.intsV _ | exact Cl.req _ | exact Cl.rsp _ | exact Cl.reqA _ | exact Cl.rspA _ | exact Cl.batsV _ | exact Cl.getB _ | exact Cl.encA _ | exact Cl.firstA _ | refine ClL.cons ?_ ?_ | refine Cl.tup ?_ | refine Cl.agg ?_ | exact ClO.RO _ _))) (by (repeat' (first | with_reducible assumption | exact ClL.nil | exact Cl.int _ _ | exact Cl.bool _ | exact Cl.bl _ | exact Cl.bs _ | exact Cl.str _ | exact Cl.nils | exact Cl.nilp | exact Cl.rec _ | exact Cl.bat _ | exact Cl.recsV _ | exact Cl.strsV _ | exact Cl.intsV _ | exact Cl.req _ | exact Cl.rsp _ | exact Cl.reqA _ | exact Cl.rspA _ | exact Cl.batsV _ | exact Cl.getB _ | exact Cl.encA _ | exact Cl.firstA _ | refine ClL.cons ?_ ?_ | refine Cl.tup ?_ | refine Cl.agg ?_ | exact ClO.RO _ _))) ?_
    (conv => arg 4; whnf); repeat (refine ⟨rfl, ?_⟩; conv => arg 4; whnf)
    refine call0 (batCheck (by omega)) (by (repeat' (first | with_reducible assumption | exact ClL.nil | exact Cl.int _ _ | exact Cl.bool _ | exact Cl.bl _ | exact Cl.bs _ | exact Cl.str _ | exact Cl.nils | exact Cl.nilp | exact Cl.rec _ | exact Cl.bat _ | exact Cl.recsV _ | exact Cl.strsV _ | exact Cl.intsV _ | exact Cl.req _ | exact Cl.rsp _ | exact Cl.reqA _ | exact Cl.rspA _ | exact Cl.batsV _ | exact Cl.getB _ | exact Cl.encA _ | exact Cl.firstA _ | refine ClL.cons ?_ ?_ | refine Cl.tup ?_ | refine Cl.agg ?_ | exact ClO.RO _ _))) (by (repeat' (first | with_reducible assumption | exact ClL.nil | exact Cl.int _ _ | exact Cl.bool _ | exact Cl.bl _ | exact Cl.bs _ | exact Cl.str _ | exact Cl.nils | exact Cl.nilp | exact Cl.rec _ | exact Cl.bat _ | exact Cl.recsV _ | exact Cl.strsV _ | exact Cl.intsV _ | exact Cl.req _ | exact Cl.rsp _ | exact Cl.reqA _ | exact Cl.rspA _ | exact Cl.batsV _ | exact Cl.getB _ | exact Cl.encA _ | exact Cl.firstA _ | refine ClL.cons ?_ ?_ | refine Cl.tup ?_ | refine Cl.agg ?_ | exact ClO.RO _ _))) ?_
    (conv => arg 4; whnf); repeat (refine ⟨rfl, ?_⟩; conv => arg 4; whnf)
    refine call0 (refCheck (by omega)) (by (repeat' (first | with_reducible assumption | exact ClL.nil | exact Cl.int _ _ | exact Cl.bool _ | exact Cl.bl _ | exact Cl.bs _ | exact Cl.str _ | exact Cl.nils | exact Cl.nilp | exact Cl.rec _ | exact Cl.bat _ | exact Cl.recsV _ | exact Cl.strsV _ | exact Cl.intsV _ | exact Cl.req _ | exact Cl.rsp _ | exact Cl.reqA _ | exact Cl.rspA _ | exact Cl.batsV _ | exact Cl.getB _ | exact Cl.encA _ | exact Cl.firstA _ | refine ClL.cons ?_ ?_ | refine Cl.tup ?_ | refine Cl.agg ?_ | exact ClO.RO _ _))) (by (repeat' (first | with_reducible assumption | exact ClL.nil | exact Cl.int _ _ | exact Cl.bool _ | exact Cl.bl _ | exact Cl.bs _ | exact Cl.str _ | exact Cl.nils | exact Cl.nilp | exact Cl.rec _ | exact Cl.bat _ | exact Cl.recsV _ | exact Cl.strsV _ | exact Cl.intsV _ | exact Cl.req _ | exact Cl.rsp _ | exact Cl.reqA _ | exact Cl.rspA _ | exact Cl.batsV _ | exact Cl.getB _ | exact Cl.encA _ | exact Cl.firstA _ | refine ClL.cons ?_ ?_ | refine Cl.tup ?_ | refine Cl.agg ?_ | exact ClO.RO _ _))) ?_
    (conv => arg 4; whnf); repeat (refine ⟨rfl, ?_⟩; conv => arg 4; whnf)
    refine ⟨fun _ => ?_, fun h => absurd h (by first | (simp; done) | (simp [u8s]; done))⟩
    conv => arg 4; whnf
    refine ⟨b.out, rfl, ?_⟩
    (conv => arg 4; whnf); repeat (refine ⟨rfl, ?_⟩; conv => arg 4; whnf)
    refine ⟨b.out, rfl, ?_⟩
    (conv => arg 4; whnf); repeat (refine ⟨rfl, ?_⟩; conv => arg 4; whnf)
    refine ⟨fun _ => ?_, fun h => absurd h (by first | (simp; done) | (simp [u8s]; done))⟩
    conv => arg 4; whnf
    (conv => arg 4; whnf); repeat (refine ⟨rfl, ?_⟩; conv => arg 4; whnf)
    refine ⟨fun _ => ?_, fun h => absurd h (by first | (simp; done) | (simp [u8s]; done))⟩
    conv => arg 4; whnf
    refine call0 (batSize (by omega)) (by (repeat' (first | with_reducible assumption | exact ClL.nil | exact Cl.int _ _ | exact Cl.bool _ | exact Cl.bl _ | exact Cl.bs _ | exact Cl.str _ | exact Cl.nils | exact Cl.nilp | exact Cl.rec _ | exact Cl.bat _ | exact Cl.recsV _ | exact Cl.strsV _ | exact Cl.intsV _ | exact Cl.req _ | exact Cl.rsp _ | exact Cl.reqA _ | exact Cl.rspA _ | exact Cl.batsV _ | exact Cl.getB _ | exact Cl.encA _ | exact Cl.firstA _ | refine ClL.cons ?_ ?_ | refine Cl.tup ?_ | refine Cl.agg ?_ | exact ClO.RO _ _))) (by (repeat' (first | with_reducible assumption | exact ClL.nil | exact Cl.int _ _ | exact Cl.bool _ | exact Cl.bl _ | exact Cl.bs _ | exact Cl.str _ | exact Cl.nils | exact Cl.nilp | exact Cl.rec _ | exact Cl.bat _ | exact Cl.recsV _ | exact Cl.strsV _ | exact Cl.intsV _ | exact Cl.req _ | exact Cl.rsp _ | exact Cl.reqA _ | exact Cl.rspA _ | exact Cl.batsV _ | exact Cl.getB _ | exact Cl.encA _ | exact Cl.firstA _ | refine ClL.cons ?_ ?_ | refine Cl.tup ?_ | refine Cl.agg ?_ | exact ClO.RO _ _))) ?_
    (conv => arg 4; whnf); repeat (refine ⟨rfl, ?_⟩; conv => arg 4; whnf)
    have e1 : ((b.out.length : Int) == ((u8s b.out).length : Int)) = true := by rw [u8s_length]; simp
    refine ⟨fun _ => ?_, fun h' => absurd (e1.symm.trans h') (by decide)⟩
    (conv => arg 4; whnf); repeat (refine ⟨rfl, ?_⟩; conv => arg 4; whnf)
    refine ⟨fun _ => ?_, fun h => absurd h (by first | (simp; done) | (simp [u8s]; done))⟩
    conv => arg 4; whnf
    refine ⟨fun _ => ?_, fun h => absurd h (by first | (simp; done) | (simp [u8s]; done))⟩
    conv => arg 4; whnf
    refine call0 (batSame (a := b) (b := b) (by omega)) (by (repeat' (first | with_reducible assumption | exact ClL.nil | exact Cl.int _ _ | exact Cl.bool _ | exact Cl.bl _ | exact Cl.bs _ | exact Cl.str _ | exact Cl.nils | exact Cl.nilp | exact Cl.rec _ | exact Cl.bat _ | exact Cl.recsV _ | exact Cl.strsV _ | exact Cl.intsV _ | exact Cl.req _ | exact Cl.rsp _ | exact Cl.reqA _ | exact Cl.rspA _ | exact Cl.batsV _ | exact Cl.getB _ | exact Cl.encA _ | exact Cl.firstA _ | refine ClL.cons ?_ ?_ | refine Cl.tup ?_ | refine Cl.agg ?_ | exact ClO.RO _ _))) (by (repeat' (first | with_reducible assumption | exact ClL.nil | exact Cl.int _ _ | exact Cl.bool _ | exact Cl.bl _ | exact Cl.bs _ | exact Cl.str _ | exact Cl.nils | exact Cl.nilp | exact Cl.rec _ | exact Cl.bat _ | exact Cl.recsV _ | exact Cl.strsV _ | exact Cl.intsV _ | exact Cl.req _ | exact Cl.rsp _ | exact Cl.reqA _ | exact Cl.rspA _ | exact Cl.batsV _ | exact Cl.getB _ | exact Cl.encA _ | exact Cl.firstA _ | refine ClL.cons ?_ ?_ | refine Cl.tup ?_ | refine Cl.agg ?_ | exact ClO.RO _ _))) ?_
    (conv => arg 4; whnf); repeat (refine ⟨rfl, ?_⟩; conv => arg 4; whnf)
    refine ⟨fun _ => ?_, fun h => absurd h (by first | (simp; done) | (simp [u8s]; done))⟩
    conv => arg 4; whnf
    refine call0 awake5 (by (repeat' (first | with_reducible assumption | exact ClL.nil | exact Cl.int _ _ | exact Cl.bool _ | exact Cl.bl _ | exact Cl.bs _ | exact Cl.str _ | exact Cl.nils | exact Cl.nilp | exact Cl.rec _ | exact Cl.bat _ | exact Cl.recsV _ | exact Cl.strsV _ | exact Cl.intsV _ | exact Cl.req _ | exact Cl.rsp _ | exact Cl.reqA _ | exact Cl.rspA _ | exact Cl.batsV _ | exact Cl.getB _ | exact Cl.encA _ | exact Cl.firstA _ | refine ClL.cons ?_ ?_ | refine Cl.tup ?_ | refine Cl.agg ?_ | exact ClO.RO _ _))) (by (repeat' (first | with_reducible assumption | exact ClL.nil | exact Cl.int _ _ | exact Cl.bool _ | exact Cl.bl _ | exact Cl.bs _ | exact Cl.str _ | exact Cl.nils | exact Cl.nilp | exact Cl.rec _ | exact Cl.bat _ | exact Cl.recsV _ | exact Cl.strsV _ | exact Cl.intsV _ | exact Cl.req _ | exact Cl.rsp _ | exact Cl.reqA _ | exact Cl.rspA _ | exact Cl.batsV _ | exact Cl.getB _ | exact Cl.encA _ | exact Cl.firstA _ | refine ClL.cons ?_ ?_ | refine Cl.tup ?_ | refine Cl.agg ?_ | exact ClO.RO _ _))) ?_
    (conv => arg 4; whnf); repeat (refine ⟨rfl, ?_⟩; conv => arg 4; whnf)
    exact .inl rfl

theorem first_few (p : List UInt8) : (firstB p).recs.length ≤ 100 := by
  by_cases h : firstE p = 0
  · have := (chk_fine (first_yes h).1.1).1.few
    omega
  · rw [(first_no h).2.1]; exact Nat.zero_le _

theorem lawReads {p : List UInt8} : CallOK Try.prog 7 [bs p] [] 0 Tru := by
  refine callOK Try.call7 Try.func7 Try.ntmps7 rfl ?_
  conv => arg 4; whnf
  refine ⟨fun h => ?_, fun h => ?_⟩
  · (conv => arg 4; whnf); repeat (refine ⟨rfl, ?_⟩; conv => arg 4; whnf)
    refine call0 awake5 (by (repeat' (first | with_reducible assumption | exact ClL.nil | exact Cl.int _ _ | exact Cl.bool _ | exact Cl.bl _ | exact Cl.bs _ | exact Cl.str _ | exact Cl.nils | exact Cl.nilp | exact Cl.rec _ | exact Cl.bat _ | exact Cl.recsV _ | exact Cl.strsV _ | exact Cl.intsV _ | exact Cl.req _ | exact Cl.rsp _ | exact Cl.reqA _ | exact Cl.rspA _ | exact Cl.batsV _ | exact Cl.getB _ | exact Cl.encA _ | exact Cl.firstA _ | refine ClL.cons ?_ ?_ | refine Cl.tup ?_ | refine Cl.agg ?_ | exact ClO.RO _ _))) (by (repeat' (first | with_reducible assumption | exact ClL.nil | exact Cl.int _ _ | exact Cl.bool _ | exact Cl.bl _ | exact Cl.bs _ | exact Cl.str _ | exact Cl.nils | exact Cl.nilp | exact Cl.rec _ | exact Cl.bat _ | exact Cl.recsV _ | exact Cl.strsV _ | exact Cl.intsV _ | exact Cl.req _ | exact Cl.rsp _ | exact Cl.reqA _ | exact Cl.rspA _ | exact Cl.batsV _ | exact Cl.getB _ | exact Cl.encA _ | exact Cl.firstA _ | refine ClL.cons ?_ ?_ | refine Cl.tup ?_ | refine Cl.agg ?_ | exact ClO.RO _ _))) ?_
    (conv => arg 4; whnf); repeat (refine ⟨rfl, ?_⟩; conv => arg 4; whnf)
    exact .inl rfl
  · rw [u8s_length] at h
    have h : p.length ≤ 5000 := by simp at h; omega
    (conv => arg 4; whnf); repeat (refine ⟨rfl, ?_⟩; conv => arg 4; whnf)
    refine call0 (batDecode (by omega)) (by (repeat' (first | with_reducible assumption | exact ClL.nil | exact Cl.int _ _ | exact Cl.bool _ | exact Cl.bl _ | exact Cl.bs _ | exact Cl.str _ | exact Cl.nils | exact Cl.nilp | exact Cl.rec _ | exact Cl.bat _ | exact Cl.recsV _ | exact Cl.strsV _ | exact Cl.intsV _ | exact Cl.req _ | exact Cl.rsp _ | exact Cl.reqA _ | exact Cl.rspA _ | exact Cl.batsV _ | exact Cl.getB _ | exact Cl.encA _ | exact Cl.firstA _ | refine ClL.cons ?_ ?_ | refine Cl.tup ?_ | refine Cl.agg ?_ | exact ClO.RO _ _))) (by (repeat' (first | with_reducible assumption | exact ClL.nil | exact Cl.int _ _ | exact Cl.bool _ | exact Cl.bl _ | exact Cl.bs _ | exact Cl.str _ | exact Cl.nils | exact Cl.nilp | exact Cl.rec _ | exact Cl.bat _ | exact Cl.recsV _ | exact Cl.strsV _ | exact Cl.intsV _ | exact Cl.req _ | exact Cl.rsp _ | exact Cl.reqA _ | exact Cl.rspA _ | exact Cl.batsV _ | exact Cl.getB _ | exact Cl.encA _ | exact Cl.firstA _ | refine ClL.cons ?_ ?_ | refine Cl.tup ?_ | refine Cl.agg ?_ | exact ClO.RO _ _))) ?_
    (conv => arg 4; whnf); repeat (refine ⟨rfl, ?_⟩; conv => arg 4; whnf)
    refine call0 (refDecode (by omega)) (by (repeat' (first | with_reducible assumption | exact ClL.nil | exact Cl.int _ _ | exact Cl.bool _ | exact Cl.bl _ | exact Cl.bs _ | exact Cl.str _ | exact Cl.nils | exact Cl.nilp | exact Cl.rec _ | exact Cl.bat _ | exact Cl.recsV _ | exact Cl.strsV _ | exact Cl.intsV _ | exact Cl.req _ | exact Cl.rsp _ | exact Cl.reqA _ | exact Cl.rspA _ | exact Cl.batsV _ | exact Cl.getB _ | exact Cl.encA _ | exact Cl.firstA _ | refine ClL.cons ?_ ?_ | refine Cl.tup ?_ | refine Cl.agg ?_ | exact ClO.RO _ _))) (by (repeat' (first | with_reducible assumption | exact ClL.nil | exact Cl.int _ _ | exact Cl.bool _ | exact Cl.bl _ | exact Cl.bs _ | exact Cl.str _ | exact Cl.nils | exact Cl.nilp | exact Cl.rec _ | exact Cl.bat _ | exact Cl.recsV _ | exact Cl.strsV _ | exact Cl.intsV _ | exact Cl.req _ | exact Cl.rsp _ | exact Cl.reqA _ | exact Cl.rspA _ | exact Cl.batsV _ | exact Cl.getB _ | exact Cl.encA _ | exact Cl.firstA _ | refine ClL.cons ?_ ?_ | refine Cl.tup ?_ | refine Cl.agg ?_ | exact ClO.RO _ _))) ?_
    (conv => arg 4; whnf); repeat (refine ⟨rfl, ?_⟩; conv => arg 4; whnf)
    refine call0 (batFirst' (by omega)) (by (repeat' (first | with_reducible assumption | exact ClL.nil | exact Cl.int _ _ | exact Cl.bool _ | exact Cl.bl _ | exact Cl.bs _ | exact Cl.str _ | exact Cl.nils | exact Cl.nilp | exact Cl.rec _ | exact Cl.bat _ | exact Cl.recsV _ | exact Cl.strsV _ | exact Cl.intsV _ | exact Cl.req _ | exact Cl.rsp _ | exact Cl.reqA _ | exact Cl.rspA _ | exact Cl.batsV _ | exact Cl.getB _ | exact Cl.encA _ | exact Cl.firstA _ | refine ClL.cons ?_ ?_ | refine Cl.tup ?_ | refine Cl.agg ?_ | exact ClO.RO _ _))) (by (repeat' (first | with_reducible assumption | exact ClL.nil | exact Cl.int _ _ | exact Cl.bool _ | exact Cl.bl _ | exact Cl.bs _ | exact Cl.str _ | exact Cl.nils | exact Cl.nilp | exact Cl.rec _ | exact Cl.bat _ | exact Cl.recsV _ | exact Cl.strsV _ | exact Cl.intsV _ | exact Cl.req _ | exact Cl.rsp _ | exact Cl.reqA _ | exact Cl.rspA _ | exact Cl.batsV _ | exact Cl.getB _ | exact Cl.encA _ | exact Cl.firstA _ | refine ClL.cons ?_ ?_ | refine Cl.tup ?_ | refine Cl.agg ?_ | exact ClO.RO _ _))) ?_
    (conv => arg 4; whnf); repeat (refine ⟨rfl, ?_⟩; conv => arg 4; whnf)
    refine call0 (refFirst' (by omega)) (by (repeat' (first | with_reducible assumption | exact ClL.nil | exact Cl.int _ _ | exact Cl.bool _ | exact Cl.bl _ | exact Cl.bs _ | exact Cl.str _ | exact Cl.nils | exact Cl.nilp | exact Cl.rec _ | exact Cl.bat _ | exact Cl.recsV _ | exact Cl.strsV _ | exact Cl.intsV _ | exact Cl.req _ | exact Cl.rsp _ | exact Cl.reqA _ | exact Cl.rspA _ | exact Cl.batsV _ | exact Cl.getB _ | exact Cl.encA _ | exact Cl.firstA _ | refine ClL.cons ?_ ?_ | refine Cl.tup ?_ | refine Cl.agg ?_ | exact ClO.RO _ _))) (by (repeat' (first | with_reducible assumption | exact ClL.nil | exact Cl.int _ _ | exact Cl.bool _ | exact Cl.bl _ | exact Cl.bs _ | exact Cl.str _ | exact Cl.nils | exact Cl.nilp | exact Cl.rec _ | exact Cl.bat _ | exact Cl.recsV _ | exact Cl.strsV _ | exact Cl.intsV _ | exact Cl.req _ | exact Cl.rsp _ | exact Cl.reqA _ | exact Cl.rspA _ | exact Cl.batsV _ | exact Cl.getB _ | exact Cl.encA _ | exact Cl.firstA _ | refine ClL.cons ?_ ?_ | refine Cl.tup ?_ | refine Cl.agg ?_ | exact ClO.RO _ _))) ?_
    (conv => arg 4; whnf); repeat (refine ⟨rfl, ?_⟩; conv => arg 4; whnf)
    have ld : (decB p).recs.length ≤ 1000000 := by
      unfold decB
      have := first_few p
      split
      · omega
      · exact Nat.zero_le _
    have lf : (firstB p).recs.length ≤ 1000000 := by have := first_few p; omega
    refine call0 (refSame (a := decB p) (b := decB p) ld) (by (repeat' (first | with_reducible assumption | exact ClL.nil | exact Cl.int _ _ | exact Cl.bool _ | exact Cl.bl _ | exact Cl.bs _ | exact Cl.str _ | exact Cl.nils | exact Cl.nilp | exact Cl.rec _ | exact Cl.bat _ | exact Cl.recsV _ | exact Cl.strsV _ | exact Cl.intsV _ | exact Cl.req _ | exact Cl.rsp _ | exact Cl.reqA _ | exact Cl.rspA _ | exact Cl.batsV _ | exact Cl.getB _ | exact Cl.encA _ | exact Cl.firstA _ | refine ClL.cons ?_ ?_ | refine Cl.tup ?_ | refine Cl.agg ?_ | exact ClO.RO _ _))) (by (repeat' (first | with_reducible assumption | exact ClL.nil | exact Cl.int _ _ | exact Cl.bool _ | exact Cl.bl _ | exact Cl.bs _ | exact Cl.str _ | exact Cl.nils | exact Cl.nilp | exact Cl.rec _ | exact Cl.bat _ | exact Cl.recsV _ | exact Cl.strsV _ | exact Cl.intsV _ | exact Cl.req _ | exact Cl.rsp _ | exact Cl.reqA _ | exact Cl.rspA _ | exact Cl.batsV _ | exact Cl.getB _ | exact Cl.encA _ | exact Cl.firstA _ | refine ClL.cons ?_ ?_ | refine Cl.tup ?_ | refine Cl.agg ?_ | exact ClO.RO _ _))) ?_
    (conv => arg 4; whnf); repeat (refine ⟨rfl, ?_⟩; conv => arg 4; whnf)
    refine ⟨fun _ => ?_, fun h => absurd h (by first | (simp; done) | (simp [u8s]; done))⟩
    conv => arg 4; whnf
    refine call0 (refSame (a := firstB p) (b := firstB p) lf) (by (repeat' (first | with_reducible assumption | exact ClL.nil | exact Cl.int _ _ | exact Cl.bool _ | exact Cl.bl _ | exact Cl.bs _ | exact Cl.str _ | exact Cl.nils | exact Cl.nilp | exact Cl.rec _ | exact Cl.bat _ | exact Cl.recsV _ | exact Cl.strsV _ | exact Cl.intsV _ | exact Cl.req _ | exact Cl.rsp _ | exact Cl.reqA _ | exact Cl.rspA _ | exact Cl.batsV _ | exact Cl.getB _ | exact Cl.encA _ | exact Cl.firstA _ | refine ClL.cons ?_ ?_ | refine Cl.tup ?_ | refine Cl.agg ?_ | exact ClO.RO _ _))) (by (repeat' (first | with_reducible assumption | exact ClL.nil | exact Cl.int _ _ | exact Cl.bool _ | exact Cl.bl _ | exact Cl.bs _ | exact Cl.str _ | exact Cl.nils | exact Cl.nilp | exact Cl.rec _ | exact Cl.bat _ | exact Cl.recsV _ | exact Cl.strsV _ | exact Cl.intsV _ | exact Cl.req _ | exact Cl.rsp _ | exact Cl.reqA _ | exact Cl.rspA _ | exact Cl.batsV _ | exact Cl.getB _ | exact Cl.encA _ | exact Cl.firstA _ | refine ClL.cons ?_ ?_ | refine Cl.tup ?_ | refine Cl.agg ?_ | exact ClO.RO _ _))) ?_
    (conv => arg 4; whnf); repeat (refine ⟨rfl, ?_⟩; conv => arg 4; whnf)
    have hc : (bif bif bif decide (firstB p = firstB p) then ((firstN p : Int) == (firstN p : Int)) else false then (firstE p == 0) == decide ((firstN p : Int) > 0) else false then bif firstE p == 0 then true else firstE p == 2 else false) = true := by
      have hz := firstN_zero (p := p)
      by_cases h0 : firstE p = 0
      · have : 0 < firstN p := by omega
        simp [h0, this]
      · have h2 := (first_no h0).1
        have : firstN p = 0 := by omega
        simp [h2, this]
    refine ⟨fun _ => ?_, fun h' => absurd (hc.symm.trans h') (by decide)⟩
    (conv => arg 4; whnf); repeat (refine ⟨rfl, ?_⟩; conv => arg 4; whnf)
    refine call0 awake5 (by (repeat' (first | with_reducible assumption | exact ClL.nil | exact Cl.int _ _ | exact Cl.bool _ | exact Cl.bl _ | exact Cl.bs _ | exact Cl.str _ | exact Cl.nils | exact Cl.nilp | exact Cl.rec _ | exact Cl.bat _ | exact Cl.recsV _ | exact Cl.strsV _ | exact Cl.intsV _ | exact Cl.req _ | exact Cl.rsp _ | exact Cl.reqA _ | exact Cl.rspA _ | exact Cl.batsV _ | exact Cl.getB _ | exact Cl.encA _ | exact Cl.firstA _ | refine ClL.cons ?_ ?_ | refine Cl.tup ?_ | refine Cl.agg ?_ | exact ClO.RO _ _))) (by (repeat' (first | with_reducible assumption | exact ClL.nil | exact Cl.int _ _ | exact Cl.bool _ | exact Cl.bl _ | exact Cl.bs _ | exact Cl.str _ | exact Cl.nils | exact Cl.nilp | exact Cl.rec _ | exact Cl.bat _ | exact Cl.recsV _ | exact Cl.strsV _ | exact Cl.intsV _ | exact Cl.req _ | exact Cl.rsp _ | exact Cl.reqA _ | exact Cl.rspA _ | exact Cl.batsV _ | exact Cl.getB _ | exact Cl.encA _ | exact Cl.firstA _ | refine ClL.cons ?_ ?_ | refine Cl.tup ?_ | refine Cl.agg ?_ | exact ClO.RO _ _))) ?_
    (conv => arg 4; whnf); repeat (refine ⟨rfl, ?_⟩; conv => arg 4; whnf)
    exact .inl rfl
end Go.Proofs.Ythclmkhkchbpiaa

namespace Go.Proofs.Ythclmkhkchbpiaa
set_option maxRecDepth 100000
set_option maxHeartbeats 80000000
open Go.Sym

theorem lenB_inj {s s' t t' : List UInt8} (h : lenB s ++ t = lenB s' ++ t') (hl : s.length ≤ 1000000) (hl' : s'.length ≤ 1000000) : s = s' ∧ t = t' := by
  have e1 := bytesR_put (s := s) (r := t) (most := 1000000) (by omega) (by omega)
  have e2 := bytesR_put (s := s') (r := t') (most := 1000000) (by omega) (by omega)
  unfold lenB at h
  rw [h, e2] at e1
  simp only [Prod.mk.injEq] at e1
  exact ⟨e1.1.symm, e1.2.1.symm⟩

theorem body_inj {r r' : Rec} {first base : Int} (h : r.wr first base) (h' : r'.wr first base) (e : r.body first base = r'.body first base) : r = r' := by
  have a1 := numR_put h.t (put (r.off - base) ++ (opt r.hk r.key ++ opt r.hv r.val))
  have a2 := numR_put h'.t (put (r'.off - base) ++ (opt r'.hk r'.key ++ opt r'.hv r'.val))
  have e1 : put (r.time - first) ++ (put (r.off - base) ++ (opt r.hk r.key ++ opt r.hv r.val)) = put (r'.time - first) ++ (put (r'.off - base) ++ (opt r'.hk r'.key ++ opt r'.hv r'.val)) := by
    simpa only [Rec.body, List.append_assoc] using e
  rw [e1, a2] at a1
  simp only [Prod.mk.injEq] at a1
  obtain ⟨t1, t2, -⟩ := a1
  have b1 := numR_put h.o (opt r.hk r.key ++ opt r.hv r.val)
  have b2 := numR_put h'.o (opt r'.hk r'.key ++ opt r'.hv r'.val)
  rw [← t2, b2] at b1
  simp only [Prod.mk.injEq] at b1
  obtain ⟨o1, o2, -⟩ := b1
  have c1 := optR_opt (r := opt r.hv r.val) h.k0 h.k
  have c2 := optR_opt (r := opt r'.hv r'.val) h'.k0 h'.k
  rw [← o2, c2] at c1
  simp only [Prod.mk.injEq] at c1
  obtain ⟨k1, k2, k3, -⟩ := c1
  have d1 := optR_opt (r := []) h.v0 h.v
  have d2 := optR_opt (r := []) h'.v0 h'.v
  rw [List.append_nil] at d1 d2
  rw [← k3, d2] at d1
  simp only [Prod.mk.injEq] at d1
  obtain ⟨v1, v2, -⟩ := d1
  obtain ⟨off, time, hk, key, hv, val⟩ := r
  obtain ⟨off', time', hk', key', hv', val'⟩ := r'
  simp only at t1 o1 k1 k2 v1 v2
  subst k1 k2 v1 v2
  have q1 : off = off' := by omega
  have q2 : time = time' := by omega
  rw [q1, q2]

theorem recsB_inj {first base : Int} : ∀ {l l' : List Rec}, l.length = l'.length → (∀ r ∈ l, r.wr first base ∧ (r.body first base).length ≤ 1000000) → (∀ r ∈ l', r.wr first base ∧ (r.body first base).length ≤ 1000000) → recsB l first base = recsB l' first base → l = l'
  | [], [], _, _, _, _ => rfl
  | [], _ :: _, e, _, _, _ => by cases e
  | _ :: _, [], e, _, _, _ => by cases e
  | r :: l, r' :: l', e, h, h', eb => by
    have e1 : lenB (r.body first base) ++ recsB l first base = lenB (r'.body first base) ++ recsB l' first base := eb
    have hr := h r List.mem_cons_self
    have hr' := h' r' List.mem_cons_self
    obtain ⟨q1, q2⟩ := lenB_inj e1 hr.2 hr'.2
    rw [body_inj hr.1 hr'.1 q1, recsB_inj (by simpa using e) (fun x hx => h x (List.mem_cons_of_mem _ hx)) (fun x hx => h' x (List.mem_cons_of_mem _ hx)) q2]

theorem enc_inj {b b' : Bat} (h : b.chk = 0) (h' : b'.chk = 0) (e : b.enc = b'.enc) : b = b' := by
  have a := enc_at h
  have a' := enc_at h'
  rw [e] at a
  obtain ⟨⟨a1, a2, a3, a4, a5, a6, a7⟩, a8⟩ := a
  obtain ⟨⟨c1, c2, c3, c4, c5, c6, c7⟩, c8⟩ := a'
  have e1 : b.base = b'.base := by rw [← a1, ← c1]
  have e2 : b.last = b'.last := by omega
  have e3 : b.first = b'.first := by rw [← a3, ← c3]
  have e4 : b.prod = b'.prod := by rw [← a4, ← c4]
  have e5 : b.epoch = b'.epoch := by rw [← a5, ← c5]
  have e6 : b.seq = b'.seq := by rw [← a6, ← c6]
  have e8 : recsB b.recs b.first b.base = recsB b'.recs b.first b.base := by rw [← a8, c8, e3, e1]
  have hf := (chk_fine h).1
  have hf' := (chk_fine h').1
  have er : b.recs = b'.recs := recsB_inj (by omega) (fun r hr => ⟨good_wr (p := b.enc) ⟨h, rfl⟩ hr, by have := body_len hf (hf.recs r hr); have := hf.recs r hr; unfold Rec.fine at this; omega⟩)
    (fun r hr => ⟨by rw [e1, e3]; exact good_wr (p := b'.enc) ⟨h', rfl⟩ hr, by rw [e1, e3]; have := body_len hf' (hf'.recs r hr); have := hf'.recs r hr; unfold Rec.fine at this; omega⟩) e8
  obtain ⟨_, _, _, _, _, _⟩ := b
  obtain ⟨_, _, _, _, _, _⟩ := b'
  simp only at e1 e2 e4 e5 e6 er
  subst e1 e2 e4 e5 e6 er
  rfl

theorem begins_len {b : Bat} {p : List UInt8} (h : b.begins p) : (b.enc.length : Int) = 12 + fxAt p 8 12 := by
  obtain ⟨t, ht⟩ := h.2
  have h2 := (chk_fine h.1).2.1
  have hlen := batE_len (b := b)
  rw [fxAt_nat (n := b.rest.length + 4) (k := 4) (pre := fixed b.base.toNat 8) (post := fixed (crcSum b.rest) 4 ++ (b.rest ++ t)) (by rw [← ht, Bat.enc]; simp only [List.append_assoc]) (fixed_len _ _) rfl (by omega) (by omega)]
  omega

theorem begins_unique {b b' : Bat} {p : List UInt8} (h : b.begins p) (h' : b'.begins p) : b = b' := by
  have l1 := begins_len h
  have l2 := begins_len h'
  refine enc_inj h.1 h'.1 ?_
  obtain ⟨t, ht⟩ := h.2
  obtain ⟨t', ht'⟩ := h'.2
  exact (List.append_inj (ht.trans ht'.symm) (by omega)).1

theorem first_is {b : Bat} {p : List UInt8} (h : b.begins p) : firstE p = 0 ∧ firstB p = b ∧ firstN p = b.enc.length := by
  have he : firstE p = 0 := by
    unfold firstE
    rw [if_pos ⟨b, h⟩]
  obtain ⟨h1, h2⟩ := first_yes he
  have hb := begins_unique h1 h
  exact ⟨he, hb, by rw [h2, hb]⟩

theorem dec_yes {p : List UInt8} (h : decE p = 0) : (decB p).chk = 0 ∧ (decB p).enc = p := by
  unfold decE at h
  split at h
  · rename_i hh
    obtain ⟨h1, h2⟩ := first_yes hh.1
    rw [decB, if_pos hh.2]
    refine ⟨h1.1, ?_⟩
    obtain ⟨t, ht⟩ := h1.2
    have := congrArg List.length ht
    rw [List.length_append] at this
    have ht0 : t = [] := List.eq_nil_of_length_eq_zero (by omega)
    rw [ht0, List.append_nil] at ht
    exact ht
  · cases h
theorem dec_is {b : Bat} (h : b.chk = 0) : decE b.enc = 0 ∧ decB b.enc = b := by
  obtain ⟨h1, h2, h3⟩ := first_is (b := b) (p := b.enc) ⟨h, List.prefix_rfl⟩
  exact ⟨by rw [decE, if_pos ⟨h1, h3⟩], by rw [decB, if_pos h3, h2]⟩
theorem dec_two {p : List UInt8} (h : decE p ≠ 0) : decE p = 2 := by
  unfold decE at h ⊢
  split
  · rename_i hh; rw [if_pos hh] at h; exact absurd rfl h
  · rfl
/-- Cut short, or longer, bytes are none's. -/
theorem dec_cut {b : Bat} (h : b.chk = 0) {k : Nat} (hk : k < b.enc.length) : decE (b.enc.take k) = 2 := by
  refine dec_two fun he => ?_
  obtain ⟨h1, h2⟩ := dec_yes he
  have hb : (decB (b.enc.take k)).begins b.enc := ⟨h1, by rw [h2]; exact List.take_prefix _ _⟩
  have := begins_unique hb ⟨h, List.prefix_rfl⟩
  rw [this] at h2
  have := congrArg List.length h2
  rw [List.length_take] at this
  omega
theorem dec_more {b : Bat} (h : b.chk = 0) {t : List UInt8} (ht : t ≠ []) : decE (b.enc ++ t) = 2 := by
  refine dec_two fun he => ?_
  obtain ⟨h1, h2⟩ := dec_yes he
  have hb : (decB (b.enc ++ t)).begins (b.enc ++ t) := ⟨h1, by rw [h2]; exact List.prefix_rfl⟩
  have := begins_unique hb ⟨h, List.prefix_append _ _⟩
  rw [this] at h2
  exact ht (by simpa using h2)

/-! ## Records taken away -/

def kept : List Rec → List Bool → List Rec
  | r :: l, k :: ks => if k then r :: kept l ks else kept l ks
  | _, _ => []

theorem kept_sub : ∀ (l : List Rec) (ks : List Bool), (kept l ks).Sublist l
  | [], _ => by simp [kept]
  | r :: l, [] => by simp [kept]
  | r :: l, k :: ks => by
    unfold kept
    cases k with
    | true => exact (kept_sub l ks).cons_cons r
    | false => exact (kept_sub l ks).cons r
theorem kept_take : ∀ {l : List Rec} {ks : List Bool} {i : Nat} {x : Rec}, l[i]? = some x → kept (l.take (i + 1)) ks = kept (l.take i) ks ++ (if ks[i]? = some true then [x] else [])
  | [], _, _, _, h => by simp at h
  | r :: l, [], i, x, h => by cases i <;> simp [kept]
  | r :: l, k :: ks, 0, x, h => by
    simp at h
    subst h
    cases k <;> simp [kept]
  | r :: l, k :: ks, i + 1, x, h => by
    simp only [List.getElem?_cons_succ] at h ⊢
    have := kept_take (ks := ks) h
    simp only [List.take_succ_cons, kept]
    cases k <;> simp [this]

theorem recsE_sub {b : Bat} : ∀ {l m : List Rec} {prev prev' : Int}, m.Sublist l → prev' ≤ prev → recsE b l prev = 0 → recsE b m prev' = 0
  | _, _, _, _, .slnil, _, _ => rfl
  | r :: l, m, prev, prev', .cons _ h, hp, he => by
    unfold recsE at he
    by_cases h0 : recE r b.base b.last prev = 0
    · rw [if_neg (by simp [h0])] at he
      have := (recE_fine h0).2.1
      exact recsE_sub h (by omega) he
    · rw [if_pos h0] at he; exact absurd he h0
  | r :: l, _ :: m, prev, prev', .cons_cons _ h, hp, he => by
    unfold recsE at he ⊢
    by_cases h0 : recE r b.base b.last prev = 0
    · rw [if_neg (by simp [h0])] at he
      have e1 : recE r b.base b.last prev' = 0 := by
        by_cases h1 : RecBad r b.base b.last prev
        · rw [recE_bad h1] at h0; omega
        · by_cases h2 : RecBig r
          · rw [recE_big h1 h2] at h0; omega
          · refine recE_ok ?_ h2
            unfold RecBad at h1 ⊢
            rintro (((((h | h) | h) | h) | h) | h)
            · exact h1 (.inl (.inl (.inl (.inl (.inl h)))))
            · exact h1 (.inl (.inl (.inl (.inl (.inr (by omega))))))
            · exact h1 (.inl (.inl (.inl (.inr h))))
            · exact h1 (.inl (.inl (.inr h)))
            · exact h1 (.inl (.inr h))
            · exact h1 (.inr h)
      rw [if_neg (by simp [e1])]
      exact recsE_sub h (Int.le_refl _) he
    · rw [if_pos h0] at he; exact absurd he h0
theorem recsE_congr {b c : Bat} (h1 : c.base = b.base) (h2 : c.last = b.last) : ∀ (l : List Rec) (prev : Int), recsE c l prev = recsE b l prev
  | [], _ => rfl
  | r :: l, prev => by
    unfold recsE
    rw [h1, h2, recsE_congr h1 h2 l r.off]

theorem put_pos (n : Int) : 1 ≤ (put n).length := by
  unfold put
  rw [putU]
  split <;> simp
theorem put_len8 {n : Int} (h : -1125899906842624 ≤ n) (h' : n ≤ 1125899906842624) : (put n).length ≤ 8 := by
  refine putU_len 7 (zig n) ?_
  have : (128 : Nat) ^ (7 + 1) = 72057594037927936 := by decide
  rw [this]
  unfold zig
  split <;> omega
theorem put_len2 {n : Int} (h : 0 ≤ n) (h' : n ≤ 8000) : (put n).length ≤ 2 := by
  refine putU_len 1 (zig n) ?_
  have : (128 : Nat) ^ (1 + 1) = 16384 := by decide
  rw [this]
  unfold zig
  split <;> omega

/-- How much longer a record may be, written of another first time. -/
theorem lenB_more {r : Rec} {f f' base : Int} (h1 : -1125899906842624 ≤ r.time - f') (h2 : r.time - f' ≤ 1125899906842624) (hl : (r.body f' base).length ≤ 8000) : (lenB (r.body f' base)).length ≤ (lenB (r.body f base)).length + 9 := by
  have a1 := put_len8 h1 h2
  have a2 := put_pos (r.time - f)
  have a3 := put_len2 (n := ((r.body f' base).length : Int)) (by omega) (by omega)
  have a4 := put_pos ((r.body f base).length : Int)
  have b : (r.body f' base).length ≤ (r.body f base).length + 7 := by
    simp only [Rec.body, List.length_append]
    omega
  simp only [lenB, List.length_append]
  omega
theorem recsB_more {f f' base : Int} : ∀ {l m : List Rec}, m.Sublist l → (∀ r ∈ m, -1125899906842624 ≤ r.time - f' ∧ r.time - f' ≤ 1125899906842624 ∧ (r.body f' base).length ≤ 8000) → (recsB m f' base).length ≤ (recsB l f base).length + 9 * l.length
  | _, _, .slnil, _ => by simp [recsB]
  | r :: l, m, .cons _ h, hm => by
    have := recsB_more (f := f) h hm
    have e : recsB (r :: l) f base = lenB (r.body f base) ++ recsB l f base := rfl
    rw [e, List.length_append, List.length_cons]
    omega
  | r :: l, _ :: m, .cons_cons _ h, hm => by
    have := recsB_more (f := f) h fun x hx => hm x (List.mem_cons_of_mem _ hx)
    have e : recsB (r :: l) f base = lenB (r.body f base) ++ recsB l f base := rfl
    have e' : recsB (r :: m) f' base = lenB (r.body f' base) ++ recsB m f' base := rfl
    obtain ⟨q1, q2, q3⟩ := hm r List.mem_cons_self
    have := lenB_more (f := f) q1 q2 q3
    rw [e, e', List.length_append, List.length_append, List.length_cons]
    omega

theorem wtR_sub {l m : List Rec} (h : m.Sublist l) : wtR m ≤ wtR l := by
  induction h with
  | slnil => exact Nat.le_refl _
  | cons r h ih => simp only [wtR, List.map_cons, List.sum_cons] at ih ⊢; omega
  | cons_cons r h ih => simp only [wtR, List.map_cons, List.sum_cons] at ih ⊢; omega

theorem recsB_wt {b : Bat} (hb : b.fine) : ∀ l : List Rec, (∀ r ∈ l, r.fine b) → (recsB l b.first b.base).length ≤ wtR l + 50 * l.length
  | [], _ => by simp [recsB]
  | r :: l, hl => by
    have ih := recsB_wt hb l fun x hx => hl x (List.mem_cons_of_mem _ hx)
    have e : recsB (r :: l) b.first b.base = lenB (r.body b.first b.base) ++ recsB l b.first b.base := rfl
    have h1 := body_len hb (hl r List.mem_cons_self)
    have h2 := hl r List.mem_cons_self
    unfold Rec.fine at h2
    have h3 := put_len2 (n := ((r.body b.first b.base).length : Int)) (by omega) (by omega)
    have h4 : (lenB (r.body b.first b.base)).length = (put ((r.body b.first b.base).length : Int)).length + (r.body b.first b.base).length := by rw [lenB, List.length_append]
    have h5 : wtR (r :: l) = r.wt + wtR l := rfl
    have h6 : r.wt = 1 + r.key.length + r.val.length := rfl
    rw [e, List.length_append, List.length_cons]
    omega

/-- A batch of which records are gone may be. -/
theorem chk_sub {b c : Bat} (h : b.chk = 0) (hw : wtR b.recs ≤ 5000) (e1 : c.base = b.base) (e2 : c.last = b.last) (e3 : c.prod = b.prod) (e4 : c.epoch = b.epoch) (e5 : c.seq = b.seq) (hs : c.recs.Sublist b.recs) : c.chk = 0 ∧ c.enc.length ≤ b.enc.length + 9 * b.recs.length := by
  obtain ⟨hf, hl, hr⟩ := chk_fine h
  have hh : ¬ HeadBad c := by
    have := hf.head
    unfold HeadBad at this ⊢
    rw [e1, e2, e3, e4, e5]
    exact this
  have hn := hs.length_le
  have hf2 := hf.few
  have hr2 : recsE c c.recs (-1) = 0 := by
    rw [recsE_congr e1 e2]
    exact recsE_sub hs (Int.le_refl _) hr
  have hfc : c.fine := fine_of hh (by omega) hr2
  have hw2 := wtR_sub hs
  have hb := recsB_wt hfc c.recs hfc.recs
  have hlen : c.enc.length = 50 + (recsB c.recs c.first c.base).length := by
    rw [batE_len, Bat.rest, List.length_append, head_len]; omega
  have hlenb : b.enc.length = 50 + (recsB b.recs b.first b.base).length := by
    rw [batE_len, Bat.rest, List.length_append, head_len]; omega
  have hm := recsB_more (f := b.first) (f' := c.first) (base := c.base) hs fun r hr => by
    have h1 := hfc.recs r hr
    have h2 := body_len hfc h1
    have h3 := first_time hfc
    unfold Rec.fine at h1
    omega
  rw [e1] at hm
  rw [e1] at hlen hb
  refine ⟨chk_ok hh (by omega) hr2 (by rw [hlen]; omega), by rw [hlen, hlenb]; omega⟩
end Go.Proofs.Ythclmkhkchbpiaa

namespace Go.Proofs.Ythclmkhkchbpiaa
set_option maxRecDepth 100000
set_option maxHeartbeats 80000000
open Go.Sym

theorem freeze1 {P : Program} {Q : AExit → St → Prop} {K : AV → Heap → Nat → Prop} {f : FuncId} {id m nx : Nat} {l : List UInt8} {h h' : Heap} {k : AV → Heap → Nat → R} (hg : get h id = some (.cells (u8s l))) (hm : l.length = m) (hh : ∀ j o, get h' j = some o → j ≠ id ∧ get h j = some o)
    (hk : holds P Q K (.call f [bs l] h' nx k)) : holds P Q K (.call f [.vec id 0 m] h nx k) := by
  refine holds_pre (args' := [bs l]) (h' := h') (nx' := nx) (Gh.freezeV (k := 0) (m := m) (els := u8s l) hg (fun F V us hr ho => ⟨us, ?_, hr, fun x hx => by simp only [elemOk, if_true]; exact ho x hx, Go.Sym.flat_one ho⟩) (fun t => ?_) hh) rfl hk
  · rw [← hr.length, u8s_length]; exact hm
  · cases t with
    | zero => exact .inr (.inr ⟨rfl, rfl⟩)
    | succ t => exact .inl rfl

theorem freezeTop {P : Program} {Q : AExit → St → Prop} {K : AV → Heap → Nat → Prop} {f : FuncId} {id m nx : Nat} {l : List UInt8} {cs : List AV} {h' : Heap} {k : AV → Heap → Nat → R} (hg : get h' id = none) (hm : l.length = m) (hc : cs = u8s l)
    (hk : holds P Q K (.call f [bs l] h' nx k)) : holds P Q K (.call f [.vec id 0 m] ((id, .cells cs) :: h') nx k) := by
  subst hc
  refine freeze1 (by rw [get_cons, if_pos rfl]) hm (fun j o hj => ?_) hk
  have hne : j ≠ id := fun e => by rw [e, hg] at hj; cases hj
  exact ⟨hne, by rw [get_cons, if_neg hne]; exact hj⟩

theorem xor8 (a x : UInt8) : IntKind.u8.wrap ((BitVec.ofInt IntKind.u8.bits (a.toNat : Int) ^^^ BitVec.ofInt IntKind.u8.bits (x.toNat : Int)).toNat : Int) = ((a ^^^ x).toNat : Int) := by
  have e : ∀ y : UInt8, BitVec.ofInt IntKind.u8.bits (y.toNat : Int) = y.toBitVec := fun y => by
    show BitVec.ofInt 8 (y.toNat : Int) = _
    rw [BitVec.ofInt_natCast]
    exact BitVec.ofNat_toNat _ _ |>.trans (by simp)
  rw [e, e]
  show IntKind.u8.wrap ((a ^^^ x).toNat : Int) = _
  have := (a ^^^ x).toNat_lt
  show ((a ^^^ x).toNat : Int).emod 256 = _
  exact Int.emod_eq_of_lt (by omega) (by omega)
theorem set_xor {l : List UInt8} {d : Nat} {x : UInt8} (hd : d < l.length) : (flatA 0 ([] ++ u8s l)).set ((d : Int).toNat * width 0) (.int .u8 (IntKind.u8.wrap ((BitVec.ofInt IntKind.u8.bits (l[d].toNat : Int) ^^^ BitVec.ofInt IntKind.u8.bits (x.toNat : Int)).toNat : Int))) = u8s (l.set d (l[d] ^^^ x)) := by
  rw [xor8, ← u8s_set]
  show (u8s l).set ((d : Int).toNat * 1) _ = _
  rw [Int.toNat_natCast, Nat.mul_one]
  rfl

theorem decIs {b : Bat} (h : b.chk = 0) : CallOK Try.prog 38 [bs b.enc] [] 0 (Out (.tup [b.av, .int .i64 0]) [] 0) := by
  have c := batDecode (p := b.enc) (by have := (chk_fine h).2.1; omega)
  rw [(dec_is h).1, (dec_is h).2] at c
  exact c
theorem decBad {p : List UInt8} (h : decE p = 2) (hl : p.length ≤ 1000000000) : CallOK Try.prog 38 [bs p] [] 0 (Out (.tup [(decB p).av, .int .i64 2]) [] 0) := by
  have c := batDecode (p := p) hl
  rw [h] at c
  exact c
/-- With one changed byte bytes are another batch's, or none's. -/
theorem dec_changed {b : Bat} (h : b.chk = 0) {i : Nat} (hi : i < b.enc.length) {c : UInt8} (hc : c ≠ b.enc[i]) : ¬ (decE (b.enc.set i c) = 0 ∧ b = decB (b.enc.set i c)) := fun ⟨h1, h2⟩ => by
  have h3 := (dec_yes h1).2
  rw [← h2] at h3
  have h4 := congrArg (fun l => l[i]?) h3
  simp only [List.getElem?_set_self hi, List.getElem?_eq_getElem hi, Option.some.injEq] at h4
  exact hc h4.symm
theorem xor_ne {a x : UInt8} (h : x ≠ 0) : a ^^^ x ≠ a := fun e => h (by
  have : a ^^^ (a ^^^ x) = a ^^^ a := by rw [e]
  rw [← UInt8.xor_assoc, UInt8.xor_self, UInt8.zero_xor] at this
  exact this)

theorem elemV_u8 {l : List UInt8} {a : AV} (h : a ∈ [] ++ u8s l) : elemV 0 a = true := by
  rw [List.nil_append] at h
  obtain ⟨c, -, rfl⟩ := List.mem_map.1 h
  rfl

theorem lawBack {b : Bat} {cut at_ : Int} {x : UInt8} (hb : b.recs.length ≤ 1000000000000000) (hcut : I64 cut) (hat : I64 at_) : CallOK Try.prog 9 [b.av, .int .i64 cut, .int .i64 at_, u8 x] [] 0 Tru := by
  refine callOK Try.call9 Try.func9 Try.ntmps9 rfl ?_
  conv => arg 4; whnf
  refine call0E (alikeBatch hb) (by (repeat' (first | with_reducible assumption | exact ClL.nil | exact Cl.int _ _ | exact Cl.bool _ | exact Cl.bl _ | exact Cl.bs _ | exact Cl.str _ | exact Cl.nils | exact Cl.nilp | exact Cl.rec _ | exact Cl.bat _ | exact Cl.recsV _ | exact Cl.strsV _ | exact Cl.intsV _ | exact Cl.req _ | exact Cl.rsp _ | exact Cl.reqA _ | exact Cl.rspA _ | exact Cl.batsV _ | exact Cl.getB _ | exact Cl.encA _ | exact Cl.firstA _ | refine ClL.cons ?_ ?_ | refine Cl.tup ?_ | refine Cl.agg ?_ | exact ClO.RO _ _))) (fun x => by (repeat' (first | with_reducible assumption | exact ClL.nil | exact Cl.int _ _ | exact Cl.bool _ | exact Cl.bl _ | exact Cl.bs _ | exact Cl.str _ | exact Cl.nils | exact Cl.nilp | exact Cl.rec _ | exact Cl.bat _ | exact Cl.recsV _ | exact Cl.strsV _ | exact Cl.intsV _ | exact Cl.req _ | exact Cl.rsp _ | exact Cl.reqA _ | exact Cl.rspA _ | exact Cl.batsV _ | exact Cl.getB _ | exact Cl.encA _ | exact Cl.firstA _ | refine ClL.cons ?_ ?_ | refine Cl.tup ?_ | refine Cl.agg ?_ | exact ClO.RO _ _))) fun n hn => ?_
  (conv => arg 4; whnf); repeat (refine ⟨rfl, ?_⟩; conv => arg 4; whnf)
  refine ⟨fun h => ?_, fun h => ?_⟩
  · (conv => arg 4; whnf); repeat (refine ⟨rfl, ?_⟩; conv => arg 4; whnf)
    refine call0 awake5 (by (repeat' (first | with_reducible assumption | exact ClL.nil | exact Cl.int _ _ | exact Cl.bool _ | exact Cl.bl _ | exact Cl.bs _ | exact Cl.str _ | exact Cl.nils | exact Cl.nilp | exact Cl.rec _ | exact Cl.bat _ | exact Cl.recsV _ | exact Cl.strsV _ | exact Cl.intsV _ | exact Cl.req _ | exact Cl.rsp _ | exact Cl.reqA _ | exact Cl.rspA _ | exact Cl.batsV _ | exact Cl.getB _ | exact Cl.encA _ | exact Cl.firstA _ | refine ClL.cons ?_ ?_ | refine Cl.tup ?_ | refine Cl.agg ?_ | exact ClO.RO _ _))) (by (repeat' (first | with_reducible assumption | exact ClL.nil | exact Cl.int _ _ | exact Cl.bool _ | exact Cl.bl _ | exact Cl.bs _ | exact Cl.str _ | exact Cl.nils | exact Cl.nilp | exact Cl.rec _ | exact Cl.bat _ | exact Cl.recsV _ | exact Cl.strsV _ | exact Cl.intsV _ | exact Cl.req _ | exact Cl.rsp _ | exact Cl.reqA _ | exact Cl.rspA _ | exact Cl.batsV _ | exact Cl.getB _ | exact Cl.encA _ | exact Cl.firstA _ | refine ClL.cons ?_ ?_ | refine Cl.tup ?_ | refine Cl.agg ?_ | exact ClO.RO _ _))) ?_
    (conv => arg 4; whnf); repeat (refine ⟨rfl, ?_⟩; conv => arg 4; whnf)
    exact .inl rfl
  · rw [recs_length] at h
    rw [← Bool.not_eq_true] at h; simp only [Bool.cond_true_left, Bool.cond_false_right, Bool.or_eq_true, Bool.and_eq_true, Bool.not_eq_true', decide_eq_true_eq, beq_iff_eq, bne_iff_ne, u8s_length, gt_iff_lt, ge_iff_le] at h
    have wb := weighs_le hn (by omega)
    have lb := wtR_length b.recs
    (conv => arg 4; whnf); repeat (refine ⟨rfl, ?_⟩; conv => arg 4; whnf)
    refine call0 (refCheck (by omega)) (by (repeat' (first | with_reducible assumption | exact ClL.nil | exact Cl.int _ _ | exact Cl.bool _ | exact Cl.bl _ | exact Cl.bs _ | exact Cl.str _ | exact Cl.nils | exact Cl.nilp | exact Cl.rec _ | exact Cl.bat _ | exact Cl.recsV _ | exact Cl.strsV _ | exact Cl.intsV _ | exact Cl.req _ | exact Cl.rsp _ | exact Cl.reqA _ | exact Cl.rspA _ | exact Cl.batsV _ | exact Cl.getB _ | exact Cl.encA _ | exact Cl.firstA _ | refine ClL.cons ?_ ?_ | refine Cl.tup ?_ | refine Cl.agg ?_ | exact ClO.RO _ _))) (by (repeat' (first | with_reducible assumption | exact ClL.nil | exact Cl.int _ _ | exact Cl.bool _ | exact Cl.bl _ | exact Cl.bs _ | exact Cl.str _ | exact Cl.nils | exact Cl.nilp | exact Cl.rec _ | exact Cl.bat _ | exact Cl.recsV _ | exact Cl.strsV _ | exact Cl.intsV _ | exact Cl.req _ | exact Cl.rsp _ | exact Cl.reqA _ | exact Cl.rspA _ | exact Cl.batsV _ | exact Cl.getB _ | exact Cl.encA _ | exact Cl.firstA _ | refine ClL.cons ?_ ?_ | refine Cl.tup ?_ | refine Cl.agg ?_ | exact ClO.RO _ _))) ?_
    (conv => arg 4; whnf); repeat (refine ⟨rfl, ?_⟩; conv => arg 4; whnf)
    refine ⟨fun hc => ?_, fun hc => ?_⟩
    · (conv => arg 4; whnf); repeat (refine ⟨rfl, ?_⟩; conv => arg 4; whnf)
      refine call0 awake5 (by (repeat' (first | with_reducible assumption | exact ClL.nil | exact Cl.int _ _ | exact Cl.bool _ | exact Cl.bl _ | exact Cl.bs _ | exact Cl.str _ | exact Cl.nils | exact Cl.nilp | exact Cl.rec _ | exact Cl.bat _ | exact Cl.recsV _ | exact Cl.strsV _ | exact Cl.intsV _ | exact Cl.req _ | exact Cl.rsp _ | exact Cl.reqA _ | exact Cl.rspA _ | exact Cl.batsV _ | exact Cl.getB _ | exact Cl.encA _ | exact Cl.firstA _ | refine ClL.cons ?_ ?_ | refine Cl.tup ?_ | refine Cl.agg ?_ | exact ClO.RO _ _))) (by (repeat' (first | with_reducible assumption | exact ClL.nil | exact Cl.int _ _ | exact Cl.bool _ | exact Cl.bl _ | exact Cl.bs _ | exact Cl.str _ | exact Cl.nils | exact Cl.nilp | exact Cl.rec _ | exact Cl.bat _ | exact Cl.recsV _ | exact Cl.strsV _ | exact Cl.intsV _ | exact Cl.req _ | exact Cl.rsp _ | exact Cl.reqA _ | exact Cl.rspA _ | exact Cl.batsV _ | exact Cl.getB _ | exact Cl.encA _ | exact Cl.firstA _ | refine ClL.cons ?_ ?_ | refine Cl.tup ?_ | refine Cl.agg ?_ | exact ClO.RO _ _))) ?_
      (conv => arg 4; whnf); repeat (refine ⟨rfl, ?_⟩; conv => arg 4; whnf)
      exact .inl rfl
    · have hc : b.chk = 0 := by simpa using hc
      have hel := (chk_fine hc).2.1
      have hel2 : 50 ≤ b.enc.length := by rw [batE_len, Bat.rest, List.length_append, head_len]; omega
      (conv => arg 4; whnf); repeat (refine ⟨rfl, ?_⟩; conv => arg 4; whnf)
      refine call0 (batEnc (by omega)) (by (repeat' (first | with_reducible assumption | exact ClL.nil | exact Cl.int _ _ | exact Cl.bool _ | exact Cl.bl _ | exact Cl.bs _ | exact Cl.str _ | exact Cl.nils | exact Cl.nilp | exact Cl.rec _ | exact Cl.bat _ | exact Cl.recsV _ | exact Cl.strsV _ | exact Cl.intsV _ | exact Cl.req _ | exact Cl.rsp _ | exact Cl.reqA _ | exact Cl.rspA _ | exact Cl.batsV _ | exact Cl.getB _ | exact Cl.encA _ | exact Cl.firstA _ | refine ClL.cons ?_ ?_ | refine Cl.tup ?_ | refine Cl.agg ?_ | exact ClO.RO _ _))) (by (repeat' (first | with_reducible assumption | exact ClL.nil | exact Cl.int _ _ | exact Cl.bool _ | exact Cl.bl _ | exact Cl.bs _ | exact Cl.str _ | exact Cl.nils | exact Cl.nilp | exact Cl.rec _ | exact Cl.bat _ | exact Cl.recsV _ | exact Cl.strsV _ | exact Cl.intsV _ | exact Cl.req _ | exact Cl.rsp _ | exact Cl.reqA _ | exact Cl.rspA _ | exact Cl.batsV _ | exact Cl.getB _ | exact Cl.encA _ | exact Cl.firstA _ | refine ClL.cons ?_ ?_ | refine Cl.tup ?_ | refine Cl.agg ?_ | exact ClO.RO _ _))) ?_
      rw [encA_yes hc]
      (conv => arg 4; whnf); repeat (refine ⟨rfl, ?_⟩; conv => arg 4; whnf)
      refine ⟨fun h' => absurd h' (by rw [u8s_length]; simp; omega), fun _ => ?_⟩
      (conv => arg 4; whnf); repeat (refine ⟨rfl, ?_⟩; conv => arg 4; whnf)
      refine call0 (decIs hc) (by (repeat' (first | with_reducible assumption | exact ClL.nil | exact Cl.int _ _ | exact Cl.bool _ | exact Cl.bl _ | exact Cl.bs _ | exact Cl.str _ | exact Cl.nils | exact Cl.nilp | exact Cl.rec _ | exact Cl.bat _ | exact Cl.recsV _ | exact Cl.strsV _ | exact Cl.intsV _ | exact Cl.req _ | exact Cl.rsp _ | exact Cl.reqA _ | exact Cl.rspA _ | exact Cl.batsV _ | exact Cl.getB _ | exact Cl.encA _ | exact Cl.firstA _ | refine ClL.cons ?_ ?_ | refine Cl.tup ?_ | refine Cl.agg ?_ | exact ClO.RO _ _))) (by (repeat' (first | with_reducible assumption | exact ClL.nil | exact Cl.int _ _ | exact Cl.bool _ | exact Cl.bl _ | exact Cl.bs _ | exact Cl.str _ | exact Cl.nils | exact Cl.nilp | exact Cl.rec _ | exact Cl.bat _ | exact Cl.recsV _ | exact Cl.strsV _ | exact Cl.intsV _ | exact Cl.req _ | exact Cl.rsp _ | exact Cl.reqA _ | exact Cl.rspA _ | exact Cl.batsV _ | exact Cl.getB _ | exact Cl.encA _ | exact Cl.firstA _ | refine ClL.cons ?_ ?_ | refine Cl.tup ?_ | refine Cl.agg ?_ | exact ClO.RO _ _))) ?_
      (conv => arg 4; whnf); repeat (refine ⟨rfl, ?_⟩; conv => arg 4; whnf)
      obtain ⟨c, hc1, hc2, cc⟩ := round (k := cut) (n := (b.enc.length : Int)) hcut (by omega)
      obtain ⟨d, hd1, hd2, dd⟩ := round (k := at_) (n := (b.enc.length : Int)) hat (by omega)
      refine call0 (by rw [u8s_length]; exact cc) (by (repeat' (first | with_reducible assumption | exact ClL.nil | exact Cl.int _ _ | exact Cl.bool _ | exact Cl.bl _ | exact Cl.bs _ | exact Cl.str _ | exact Cl.nils | exact Cl.nilp | exact Cl.rec _ | exact Cl.bat _ | exact Cl.recsV _ | exact Cl.strsV _ | exact Cl.intsV _ | exact Cl.req _ | exact Cl.rsp _ | exact Cl.reqA _ | exact Cl.rspA _ | exact Cl.batsV _ | exact Cl.getB _ | exact Cl.encA _ | exact Cl.firstA _ | refine ClL.cons ?_ ?_ | refine Cl.tup ?_ | refine Cl.agg ?_ | exact ClO.RO _ _))) (by (repeat' (first | with_reducible assumption | exact ClL.nil | exact Cl.int _ _ | exact Cl.bool _ | exact Cl.bl _ | exact Cl.bs _ | exact Cl.str _ | exact Cl.nils | exact Cl.nilp | exact Cl.rec _ | exact Cl.bat _ | exact Cl.recsV _ | exact Cl.strsV _ | exact Cl.intsV _ | exact Cl.req _ | exact Cl.rsp _ | exact Cl.reqA _ | exact Cl.rspA _ | exact Cl.batsV _ | exact Cl.getB _ | exact Cl.encA _ | exact Cl.firstA _ | refine ClL.cons ?_ ?_ | refine Cl.tup ?_ | refine Cl.agg ?_ | exact ClO.RO _ _))) ?_
      (conv => arg 4; whnf); repeat (refine ⟨rfl, ?_⟩; conv => arg 4; whnf)
      refine ⟨by rw [u8s_length]; omega, ?_⟩
      (conv => arg 4; whnf); repeat (refine ⟨rfl, ?_⟩; conv => arg 4; whnf)
      refine holds_args (args' := [bs (b.enc.take c)]) ⟨Le.noneOf (by rw [Int.toNat_natCast, u8s_take]), trivial⟩ ?_
      refine call0 (decBad (dec_cut hc (by omega)) (by rw [List.length_take]; omega)) (by (repeat' (first | with_reducible assumption | exact ClL.nil | exact Cl.int _ _ | exact Cl.bool _ | exact Cl.bl _ | exact Cl.bs _ | exact Cl.str _ | exact Cl.nils | exact Cl.nilp | exact Cl.rec _ | exact Cl.bat _ | exact Cl.recsV _ | exact Cl.strsV _ | exact Cl.intsV _ | exact Cl.req _ | exact Cl.rsp _ | exact Cl.reqA _ | exact Cl.rspA _ | exact Cl.batsV _ | exact Cl.getB _ | exact Cl.encA _ | exact Cl.firstA _ | refine ClL.cons ?_ ?_ | refine Cl.tup ?_ | refine Cl.agg ?_ | exact ClO.RO _ _))) (by (repeat' (first | with_reducible assumption | exact ClL.nil | exact Cl.int _ _ | exact Cl.bool _ | exact Cl.bl _ | exact Cl.bs _ | exact Cl.str _ | exact Cl.nils | exact Cl.nilp | exact Cl.rec _ | exact Cl.bat _ | exact Cl.recsV _ | exact Cl.strsV _ | exact Cl.intsV _ | exact Cl.req _ | exact Cl.rsp _ | exact Cl.reqA _ | exact Cl.rspA _ | exact Cl.batsV _ | exact Cl.getB _ | exact Cl.encA _ | exact Cl.firstA _ | refine ClL.cons ?_ ?_ | refine Cl.tup ?_ | refine Cl.agg ?_ | exact ClO.RO _ _))) ?_
      (conv => arg 4; whnf); repeat (refine ⟨rfl, ?_⟩; conv => arg 4; whnf)
      refine ⟨sizeOk 1 rfl ?_, ?_⟩
      · simp [u8s_length]; omega
      refine Or.inl ?_
      conv => arg 4; whnf
      refine ⟨⟨by first | rfl | trivial, sizeOk 1 rfl ?_⟩, ?_⟩
      · simp [u8s]; omega
      conv => arg 4; whnf
      have em : [] ++ u8s b.enc ++ [u8 x] = u8s (b.enc ++ [x]) := by rw [List.nil_append, u8s_append]; rfl
      refine holds_args (args' := [bs (b.enc ++ [x])]) ⟨Le.noneOf em, trivial⟩ ?_
      refine call0 (decBad (dec_more hc (by simp)) (by simp; omega)) (by (repeat' (first | with_reducible assumption | exact ClL.nil | exact Cl.int _ _ | exact Cl.bool _ | exact Cl.bl _ | exact Cl.bs _ | exact Cl.str _ | exact Cl.nils | exact Cl.nilp | exact Cl.rec _ | exact Cl.bat _ | exact Cl.recsV _ | exact Cl.strsV _ | exact Cl.intsV _ | exact Cl.req _ | exact Cl.rsp _ | exact Cl.reqA _ | exact Cl.rspA _ | exact Cl.batsV _ | exact Cl.getB _ | exact Cl.encA _ | exact Cl.firstA _ | refine ClL.cons ?_ ?_ | refine Cl.tup ?_ | refine Cl.agg ?_ | exact ClO.RO _ _))) (by (repeat' (first | with_reducible assumption | exact ClL.nil | exact Cl.int _ _ | exact Cl.bool _ | exact Cl.bl _ | exact Cl.bs _ | exact Cl.str _ | exact Cl.nils | exact Cl.nilp | exact Cl.rec _ | exact Cl.bat _ | exact Cl.recsV _ | exact Cl.strsV _ | exact Cl.intsV _ | exact Cl.req _ | exact Cl.rsp _ | exact Cl.reqA _ | exact Cl.rspA _ | exact Cl.batsV _ | exact Cl.getB _ | exact Cl.encA _ | exact Cl.firstA _ | refine ClL.cons ?_ ?_ | refine Cl.tup ?_ | refine Cl.agg ?_ | exact ClO.RO _ _))) ?_
      (conv => arg 4; whnf); repeat (refine ⟨rfl, ?_⟩; conv => arg 4; whnf)
      refine ⟨fun h' => absurd h' (by decide), fun _ => ?_⟩
      (conv => arg 4; whnf); repeat (refine ⟨rfl, ?_⟩; conv => arg 4; whnf)
      refine call0 (batSame (a := b) (b := b) (by have := (chk_fine hc).1.few; omega)) (by (repeat' (first | with_reducible assumption | exact ClL.nil | exact Cl.int _ _ | exact Cl.bool _ | exact Cl.bl _ | exact Cl.bs _ | exact Cl.str _ | exact Cl.nils | exact Cl.nilp | exact Cl.rec _ | exact Cl.bat _ | exact Cl.recsV _ | exact Cl.strsV _ | exact Cl.intsV _ | exact Cl.req _ | exact Cl.rsp _ | exact Cl.reqA _ | exact Cl.rspA _ | exact Cl.batsV _ | exact Cl.getB _ | exact Cl.encA _ | exact Cl.firstA _ | refine ClL.cons ?_ ?_ | refine Cl.tup ?_ | refine Cl.agg ?_ | exact ClO.RO _ _))) (by (repeat' (first | with_reducible assumption | exact ClL.nil | exact Cl.int _ _ | exact Cl.bool _ | exact Cl.bl _ | exact Cl.bs _ | exact Cl.str _ | exact Cl.nils | exact Cl.nilp | exact Cl.rec _ | exact Cl.bat _ | exact Cl.recsV _ | exact Cl.strsV _ | exact Cl.intsV _ | exact Cl.req _ | exact Cl.rsp _ | exact Cl.reqA _ | exact Cl.rspA _ | exact Cl.batsV _ | exact Cl.getB _ | exact Cl.encA _ | exact Cl.firstA _ | refine ClL.cons ?_ ?_ | refine Cl.tup ?_ | refine Cl.agg ?_ | exact ClO.RO _ _))) ?_
      (conv => arg 4; whnf); repeat (refine ⟨rfl, ?_⟩; conv => arg 4; whnf)
      refine ⟨fun h => absurd h (by first | (simp; done) | (simp [u8s]; done)), fun _ => ?_⟩
      conv => arg 4; whnf
      refine call0 (refSame (a := b) (b := b) (by have := (chk_fine hc).1.few; omega)) (by (repeat' (first | with_reducible assumption | exact ClL.nil | exact Cl.int _ _ | exact Cl.bool _ | exact Cl.bl _ | exact Cl.bs _ | exact Cl.str _ | exact Cl.nils | exact Cl.nilp | exact Cl.rec _ | exact Cl.bat _ | exact Cl.recsV _ | exact Cl.strsV _ | exact Cl.intsV _ | exact Cl.req _ | exact Cl.rsp _ | exact Cl.reqA _ | exact Cl.rspA _ | exact Cl.batsV _ | exact Cl.getB _ | exact Cl.encA _ | exact Cl.firstA _ | refine ClL.cons ?_ ?_ | refine Cl.tup ?_ | refine Cl.agg ?_ | exact ClO.RO _ _))) (by (repeat' (first | with_reducible assumption | exact ClL.nil | exact Cl.int _ _ | exact Cl.bool _ | exact Cl.bl _ | exact Cl.bs _ | exact Cl.str _ | exact Cl.nils | exact Cl.nilp | exact Cl.rec _ | exact Cl.bat _ | exact Cl.recsV _ | exact Cl.strsV _ | exact Cl.intsV _ | exact Cl.req _ | exact Cl.rsp _ | exact Cl.reqA _ | exact Cl.rspA _ | exact Cl.batsV _ | exact Cl.getB _ | exact Cl.encA _ | exact Cl.firstA _ | refine ClL.cons ?_ ?_ | refine Cl.tup ?_ | refine Cl.agg ?_ | exact ClO.RO _ _))) ?_
      (conv => arg 4; whnf); repeat (refine ⟨rfl, ?_⟩; conv => arg 4; whnf)
      refine ⟨fun h => absurd h (by first | (simp; done) | (simp [u8s]; done)), fun _ => ?_⟩
      conv => arg 4; whnf
      repeat (refine ⟨fun h' => absurd h' (by decide), fun _ => ?_⟩; conv => arg 4; whnf)
      refine ⟨fun hx => ?_, fun hx => ?_⟩
      · have hx0 : x ≠ 0 := fun e => by subst e; exact absurd hx (by decide)
        (conv => arg 4; whnf); repeat (refine ⟨rfl, ?_⟩; conv => arg 4; whnf)
        refine ⟨sizeOk 1 rfl ?_, ?_⟩
        · simp [u8s_length]; omega
        refine Or.inr ?_
        conv => arg 4; whnf
        refine ⟨⟨by rw [u8s_length]; omega, fun a ha => elemV_u8 ha⟩, ?_⟩
        (conv => arg 4; whnf); repeat (refine ⟨rfl, ?_⟩; conv => arg 4; whnf)
        refine call0 (by rw [u8s_length]; exact dd) (by (repeat' (first | with_reducible assumption | exact ClL.nil | exact Cl.int _ _ | exact Cl.bool _ | exact Cl.bl _ | exact Cl.bs _ | exact Cl.str _ | exact Cl.nils | exact Cl.nilp | exact Cl.rec _ | exact Cl.bat _ | exact Cl.recsV _ | exact Cl.strsV _ | exact Cl.intsV _ | exact Cl.req _ | exact Cl.rsp _ | exact Cl.reqA _ | exact Cl.rspA _ | exact Cl.batsV _ | exact Cl.getB _ | exact Cl.encA _ | exact Cl.firstA _ | refine ClL.cons ?_ ?_ | refine Cl.tup ?_ | refine Cl.agg ?_ | exact ClO.RO _ _))) (by (repeat' (first | with_reducible assumption | exact ClL.nil | exact Cl.int _ _ | exact Cl.bool _ | exact Cl.bl _ | exact Cl.bs _ | exact Cl.str _ | exact Cl.nils | exact Cl.nilp | exact Cl.rec _ | exact Cl.bat _ | exact Cl.recsV _ | exact Cl.strsV _ | exact Cl.intsV _ | exact Cl.req _ | exact Cl.rsp _ | exact Cl.reqA _ | exact Cl.rspA _ | exact Cl.batsV _ | exact Cl.getB _ | exact Cl.encA _ | exact Cl.firstA _ | refine ClL.cons ?_ ?_ | refine Cl.tup ?_ | refine Cl.agg ?_ | exact ClO.RO _ _))) ?_
        (conv => arg 4; whnf); repeat (refine ⟨rfl, ?_⟩; conv => arg 4; whnf)
        refine call0 (by rw [u8s_length]; exact dd) (by (repeat' (first | with_reducible assumption | exact ClL.nil | exact Cl.int _ _ | exact Cl.bool _ | exact Cl.bl _ | exact Cl.bs _ | exact Cl.str _ | exact Cl.nils | exact Cl.nilp | exact Cl.rec _ | exact Cl.bat _ | exact Cl.recsV _ | exact Cl.strsV _ | exact Cl.intsV _ | exact Cl.req _ | exact Cl.rsp _ | exact Cl.reqA _ | exact Cl.rspA _ | exact Cl.batsV _ | exact Cl.getB _ | exact Cl.encA _ | exact Cl.firstA _ | refine ClL.cons ?_ ?_ | refine Cl.tup ?_ | refine Cl.agg ?_ | exact ClO.RO _ _))) (by (repeat' (first | with_reducible assumption | exact ClL.nil | exact Cl.int _ _ | exact Cl.bool _ | exact Cl.bl _ | exact Cl.bs _ | exact Cl.str _ | exact Cl.nils | exact Cl.nilp | exact Cl.rec _ | exact Cl.bat _ | exact Cl.recsV _ | exact Cl.strsV _ | exact Cl.intsV _ | exact Cl.req _ | exact Cl.rsp _ | exact Cl.reqA _ | exact Cl.rspA _ | exact Cl.batsV _ | exact Cl.getB _ | exact Cl.encA _ | exact Cl.firstA _ | refine ClL.cons ?_ ?_ | refine Cl.tup ?_ | refine Cl.agg ?_ | exact ClO.RO _ _))) ?_
        (conv => arg 4; whnf); repeat (refine ⟨rfl, ?_⟩; conv => arg 4; whnf)
        have hlen : ([] ++ u8s b.enc).length = b.enc.length := by rw [List.nil_append, u8s_length]
        refine ⟨by rw [hlen]; omega, ?_⟩
        (conv => arg 4; whnf); repeat (refine ⟨rfl, ?_⟩; conv => arg 4; whnf)
        have hdd : d < b.enc.length := by omega
        refine ⟨u8 b.enc[d], ⟨by omega, by show (u8s b.enc)[_]? = _; rw [show (((d : Int).toNat * width 0 : Nat) : Int).toNat = d from by show ((d : Int).toNat * 1 : Nat) = d; omega]; simp [u8s, hdd]⟩, ?_⟩
        (conv => arg 4; whnf); repeat (refine ⟨rfl, ?_⟩; conv => arg 4; whnf)
        refine ⟨by rw [hlen]; omega, ?_⟩
        (conv => arg 4; whnf); repeat (refine ⟨rfl, ?_⟩; conv => arg 4; whnf)
        refine ⟨by show (d : Int).toNat * 1 < ([] ++ u8s b.enc).length; rw [hlen]; omega, ?_⟩
        (conv => arg 4; whnf); repeat (refine ⟨rfl, ?_⟩; conv => arg 4; whnf)
        refine freezeTop (l := b.enc.set d (b.enc[d] ^^^ x)) rfl (by rw [List.length_set, hlen]) (set_xor hdd) ?_
        have hlq : (b.enc.set d (b.enc[d] ^^^ x)).length ≤ 1000000000 := by rw [List.length_set]; omega
        refine call0 (batDecode hlq) (by (repeat' (first | with_reducible assumption | exact ClL.nil | exact Cl.int _ _ | exact Cl.bool _ | exact Cl.bl _ | exact Cl.bs _ | exact Cl.str _ | exact Cl.nils | exact Cl.nilp | exact Cl.rec _ | exact Cl.bat _ | exact Cl.recsV _ | exact Cl.strsV _ | exact Cl.intsV _ | exact Cl.req _ | exact Cl.rsp _ | exact Cl.reqA _ | exact Cl.rspA _ | exact Cl.batsV _ | exact Cl.getB _ | exact Cl.encA _ | exact Cl.firstA _ | refine ClL.cons ?_ ?_ | refine Cl.tup ?_ | refine Cl.agg ?_ | exact ClO.RO _ _))) (by (repeat' (first | with_reducible assumption | exact ClL.nil | exact Cl.int _ _ | exact Cl.bool _ | exact Cl.bl _ | exact Cl.bs _ | exact Cl.str _ | exact Cl.nils | exact Cl.nilp | exact Cl.rec _ | exact Cl.bat _ | exact Cl.recsV _ | exact Cl.strsV _ | exact Cl.intsV _ | exact Cl.req _ | exact Cl.rsp _ | exact Cl.reqA _ | exact Cl.rspA _ | exact Cl.batsV _ | exact Cl.getB _ | exact Cl.encA _ | exact Cl.firstA _ | refine ClL.cons ?_ ?_ | refine Cl.tup ?_ | refine Cl.agg ?_ | exact ClO.RO _ _))) ?_
        (conv => arg 4; whnf); repeat (refine ⟨rfl, ?_⟩; conv => arg 4; whnf)
        have hch := dec_changed hc hdd (xor_ne hx0)
        refine ⟨fun hq => ?_, fun hq => ?_⟩
        · have hq : decE (b.enc.set d (b.enc[d] ^^^ x)) = 0 := by simpa using hq
          (conv => arg 4; whnf); repeat (refine ⟨rfl, ?_⟩; conv => arg 4; whnf)
          refine call0 (batSame (a := b) (b := decB (b.enc.set d (b.enc[d] ^^^ x))) (by have := (chk_fine hc).1.few; omega)) (by (repeat' (first | with_reducible assumption | exact ClL.nil | exact Cl.int _ _ | exact Cl.bool _ | exact Cl.bl _ | exact Cl.bs _ | exact Cl.str _ | exact Cl.nils | exact Cl.nilp | exact Cl.rec _ | exact Cl.bat _ | exact Cl.recsV _ | exact Cl.strsV _ | exact Cl.intsV _ | exact Cl.req _ | exact Cl.rsp _ | exact Cl.reqA _ | exact Cl.rspA _ | exact Cl.batsV _ | exact Cl.getB _ | exact Cl.encA _ | exact Cl.firstA _ | refine ClL.cons ?_ ?_ | refine Cl.tup ?_ | refine Cl.agg ?_ | exact ClO.RO _ _))) (by (repeat' (first | with_reducible assumption | exact ClL.nil | exact Cl.int _ _ | exact Cl.bool _ | exact Cl.bl _ | exact Cl.bs _ | exact Cl.str _ | exact Cl.nils | exact Cl.nilp | exact Cl.rec _ | exact Cl.bat _ | exact Cl.recsV _ | exact Cl.strsV _ | exact Cl.intsV _ | exact Cl.req _ | exact Cl.rsp _ | exact Cl.reqA _ | exact Cl.rspA _ | exact Cl.batsV _ | exact Cl.getB _ | exact Cl.encA _ | exact Cl.firstA _ | refine ClL.cons ?_ ?_ | refine Cl.tup ?_ | refine Cl.agg ?_ | exact ClO.RO _ _))) ?_
          rw [decide_eq_false fun e => hch ⟨hq, e⟩]
          (conv => arg 4; whnf); repeat (refine ⟨rfl, ?_⟩; conv => arg 4; whnf)
          repeat (refine ⟨fun h' => absurd h' (by decide), fun _ => ?_⟩; conv => arg 4; whnf)
          refine call0 awake5 (by (repeat' (first | with_reducible assumption | exact ClL.nil | exact Cl.int _ _ | exact Cl.bool _ | exact Cl.bl _ | exact Cl.bs _ | exact Cl.str _ | exact Cl.nils | exact Cl.nilp | exact Cl.rec _ | exact Cl.bat _ | exact Cl.recsV _ | exact Cl.strsV _ | exact Cl.intsV _ | exact Cl.req _ | exact Cl.rsp _ | exact Cl.reqA _ | exact Cl.rspA _ | exact Cl.batsV _ | exact Cl.getB _ | exact Cl.encA _ | exact Cl.firstA _ | refine ClL.cons ?_ ?_ | refine Cl.tup ?_ | refine Cl.agg ?_ | exact ClO.RO _ _))) (by (repeat' (first | with_reducible assumption | exact ClL.nil | exact Cl.int _ _ | exact Cl.bool _ | exact Cl.bl _ | exact Cl.bs _ | exact Cl.str _ | exact Cl.nils | exact Cl.nilp | exact Cl.rec _ | exact Cl.bat _ | exact Cl.recsV _ | exact Cl.strsV _ | exact Cl.intsV _ | exact Cl.req _ | exact Cl.rsp _ | exact Cl.reqA _ | exact Cl.rspA _ | exact Cl.batsV _ | exact Cl.getB _ | exact Cl.encA _ | exact Cl.firstA _ | refine ClL.cons ?_ ?_ | refine Cl.tup ?_ | refine Cl.agg ?_ | exact ClO.RO _ _))) ?_
          (conv => arg 4; whnf); repeat (refine ⟨rfl, ?_⟩; conv => arg 4; whnf)
          exact .inl rfl
        · (conv => arg 4; whnf); repeat (refine ⟨rfl, ?_⟩; conv => arg 4; whnf)
          repeat (refine ⟨fun h' => absurd h' (by decide), fun _ => ?_⟩; conv => arg 4; whnf)
          refine call0 awake5 (by (repeat' (first | with_reducible assumption | exact ClL.nil | exact Cl.int _ _ | exact Cl.bool _ | exact Cl.bl _ | exact Cl.bs _ | exact Cl.str _ | exact Cl.nils | exact Cl.nilp | exact Cl.rec _ | exact Cl.bat _ | exact Cl.recsV _ | exact Cl.strsV _ | exact Cl.intsV _ | exact Cl.req _ | exact Cl.rsp _ | exact Cl.reqA _ | exact Cl.rspA _ | exact Cl.batsV _ | exact Cl.getB _ | exact Cl.encA _ | exact Cl.firstA _ | refine ClL.cons ?_ ?_ | refine Cl.tup ?_ | refine Cl.agg ?_ | exact ClO.RO _ _))) (by (repeat' (first | with_reducible assumption | exact ClL.nil | exact Cl.int _ _ | exact Cl.bool _ | exact Cl.bl _ | exact Cl.bs _ | exact Cl.str _ | exact Cl.nils | exact Cl.nilp | exact Cl.rec _ | exact Cl.bat _ | exact Cl.recsV _ | exact Cl.strsV _ | exact Cl.intsV _ | exact Cl.req _ | exact Cl.rsp _ | exact Cl.reqA _ | exact Cl.rspA _ | exact Cl.batsV _ | exact Cl.getB _ | exact Cl.encA _ | exact Cl.firstA _ | refine ClL.cons ?_ ?_ | refine Cl.tup ?_ | refine Cl.agg ?_ | exact ClO.RO _ _))) ?_
          (conv => arg 4; whnf); repeat (refine ⟨rfl, ?_⟩; conv => arg 4; whnf)
          exact .inl rfl
      · (conv => arg 4; whnf); repeat (refine ⟨rfl, ?_⟩; conv => arg 4; whnf)
        refine call0 awake5 (by (repeat' (first | with_reducible assumption | exact ClL.nil | exact Cl.int _ _ | exact Cl.bool _ | exact Cl.bl _ | exact Cl.bs _ | exact Cl.str _ | exact Cl.nils | exact Cl.nilp | exact Cl.rec _ | exact Cl.bat _ | exact Cl.recsV _ | exact Cl.strsV _ | exact Cl.intsV _ | exact Cl.req _ | exact Cl.rsp _ | exact Cl.reqA _ | exact Cl.rspA _ | exact Cl.batsV _ | exact Cl.getB _ | exact Cl.encA _ | exact Cl.firstA _ | refine ClL.cons ?_ ?_ | refine Cl.tup ?_ | refine Cl.agg ?_ | exact ClO.RO _ _))) (by (repeat' (first | with_reducible assumption | exact ClL.nil | exact Cl.int _ _ | exact Cl.bool _ | exact Cl.bl _ | exact Cl.bs _ | exact Cl.str _ | exact Cl.nils | exact Cl.nilp | exact Cl.rec _ | exact Cl.bat _ | exact Cl.recsV _ | exact Cl.strsV _ | exact Cl.intsV _ | exact Cl.req _ | exact Cl.rsp _ | exact Cl.reqA _ | exact Cl.rspA _ | exact Cl.batsV _ | exact Cl.getB _ | exact Cl.encA _ | exact Cl.firstA _ | refine ClL.cons ?_ ?_ | refine Cl.tup ?_ | refine Cl.agg ?_ | exact ClO.RO _ _))) ?_
        (conv => arg 4; whnf); repeat (refine ⟨rfl, ?_⟩; conv => arg 4; whnf)
        exact .inl rfl
end Go.Proofs.Ythclmkhkchbpiaa

namespace Go.Proofs.Ythclmkhkchbpiaa
set_option maxRecDepth 100000
set_option maxHeartbeats 80000000
open Go.Sym

def boolsL (l : List Bool) : List AV := l.map AV.bl
theorem ren_boolsL (ρ : Nat → Nat) (l : List Bool) : renL ρ (boolsL l) = boolsL l := by
  induction l with
  | nil => rfl
  | cons x l ih => show ren ρ (.bl x) :: renL ρ (boolsL l) = _; rw [ih]; rfl
theorem boolsL_get {l : List Bool} {i : Nat} {x : Bool} (h : l[i]? = some x) : (boolsL l)[((i : Nat) : Int).toNat]? = some (.bl x) := by simp [boolsL, h]
theorem Cl.boolsL (l : List Bool) : Cl (.sl .none 0 (boolsL l)) := Cl.sl (fun ρ => ren_boolsL ρ l)

theorem gaps_size {x y n : Nat} (h : x ≤ y + 9 * n) (hy : y ≤ 65536) (hn : n ≤ 1000) : decide ((x : Int) ≤ IntKind.i64.wrap ((y : Int) + IntKind.i64.wrap (9 * (n : Int)))) = true := by
  rw [IntKind.wrap_i64, IntKind.wrap_i64]
  simp only [decide_eq_true_eq]
  omega

structure GpI (b : Bat) (ks : List Bool) where
  i : Nat
  s : Nat
  hi : i ≤ b.recs.length

theorem lawGaps {b : Bat} {ks : List Bool} (hb : b.recs.length ≤ 1000000000000000) : CallOK Try.prog 12 [b.av, .sl .none 0 (boolsL ks)] [] 0 Tru := by
  refine callOK Try.call12 Try.func12 Try.ntmps12 rfl ?_
  conv => arg 4; whnf
  refine call0E (alikeBatch hb) (by (repeat' (first | with_reducible assumption | exact ClL.nil | exact Cl.int _ _ | exact Cl.bool _ | exact Cl.bl _ | exact Cl.bs _ | exact Cl.str _ | exact Cl.nils | exact Cl.nilp | exact Cl.rec _ | exact Cl.bat _ | exact Cl.recsV _ | exact Cl.strsV _ | exact Cl.intsV _ | exact Cl.req _ | exact Cl.rsp _ | exact Cl.reqA _ | exact Cl.rspA _ | exact Cl.batsV _ | exact Cl.getB _ | exact Cl.encA _ | exact Cl.firstA _ | refine ClL.cons ?_ ?_ | refine Cl.tup ?_ | refine Cl.agg ?_ | exact ClO.RO _ _))) (fun x => by (repeat' (first | with_reducible assumption | exact ClL.nil | exact Cl.int _ _ | exact Cl.bool _ | exact Cl.bl _ | exact Cl.bs _ | exact Cl.str _ | exact Cl.nils | exact Cl.nilp | exact Cl.rec _ | exact Cl.bat _ | exact Cl.recsV _ | exact Cl.strsV _ | exact Cl.intsV _ | exact Cl.req _ | exact Cl.rsp _ | exact Cl.reqA _ | exact Cl.rspA _ | exact Cl.batsV _ | exact Cl.getB _ | exact Cl.encA _ | exact Cl.firstA _ | refine ClL.cons ?_ ?_ | refine Cl.tup ?_ | refine Cl.agg ?_ | exact ClO.RO _ _))) fun n hn => ?_
  (conv => arg 4; whnf); repeat (refine ⟨rfl, ?_⟩; conv => arg 4; whnf)
  refine ⟨fun h => ?_, fun h => ?_⟩
  · (conv => arg 4; whnf); repeat (refine ⟨rfl, ?_⟩; conv => arg 4; whnf)
    refine call0 awake5 (by (repeat' (first | with_reducible assumption | exact ClL.nil | exact Cl.int _ _ | exact Cl.bool _ | exact Cl.bl _ | exact Cl.bs _ | exact Cl.str _ | exact Cl.nils | exact Cl.nilp | exact Cl.rec _ | exact Cl.bat _ | exact Cl.recsV _ | exact Cl.strsV _ | exact Cl.intsV _ | exact Cl.req _ | exact Cl.rsp _ | exact Cl.reqA _ | exact Cl.rspA _ | exact Cl.batsV _ | exact Cl.getB _ | exact Cl.encA _ | exact Cl.firstA _ | refine ClL.cons ?_ ?_ | refine Cl.tup ?_ | refine Cl.agg ?_ | exact ClO.RO _ _))) (by (repeat' (first | with_reducible assumption | exact ClL.nil | exact Cl.int _ _ | exact Cl.bool _ | exact Cl.bl _ | exact Cl.bs _ | exact Cl.str _ | exact Cl.nils | exact Cl.nilp | exact Cl.rec _ | exact Cl.bat _ | exact Cl.recsV _ | exact Cl.strsV _ | exact Cl.intsV _ | exact Cl.req _ | exact Cl.rsp _ | exact Cl.reqA _ | exact Cl.rspA _ | exact Cl.batsV _ | exact Cl.getB _ | exact Cl.encA _ | exact Cl.firstA _ | refine ClL.cons ?_ ?_ | refine Cl.tup ?_ | refine Cl.agg ?_ | exact ClO.RO _ _))) ?_
    (conv => arg 4; whnf); repeat (refine ⟨rfl, ?_⟩; conv => arg 4; whnf)
    exact .inl rfl
  · rw [recs_length] at h
    rw [← Bool.not_eq_true] at h; simp only [Bool.cond_true_left, Bool.cond_false_right, Bool.or_eq_true, Bool.and_eq_true, Bool.not_eq_true', decide_eq_true_eq, beq_iff_eq, bne_iff_ne, u8s_length, gt_iff_lt, ge_iff_le] at h
    have wb := weighs_le hn (by omega)
    have lb := wtR_length b.recs
    (conv => arg 4; whnf); repeat (refine ⟨rfl, ?_⟩; conv => arg 4; whnf)
    refine call0 (refCheck (by omega)) (by (repeat' (first | with_reducible assumption | exact ClL.nil | exact Cl.int _ _ | exact Cl.bool _ | exact Cl.bl _ | exact Cl.bs _ | exact Cl.str _ | exact Cl.nils | exact Cl.nilp | exact Cl.rec _ | exact Cl.bat _ | exact Cl.recsV _ | exact Cl.strsV _ | exact Cl.intsV _ | exact Cl.req _ | exact Cl.rsp _ | exact Cl.reqA _ | exact Cl.rspA _ | exact Cl.batsV _ | exact Cl.getB _ | exact Cl.encA _ | exact Cl.firstA _ | refine ClL.cons ?_ ?_ | refine Cl.tup ?_ | refine Cl.agg ?_ | exact ClO.RO _ _))) (by (repeat' (first | with_reducible assumption | exact ClL.nil | exact Cl.int _ _ | exact Cl.bool _ | exact Cl.bl _ | exact Cl.bs _ | exact Cl.str _ | exact Cl.nils | exact Cl.nilp | exact Cl.rec _ | exact Cl.bat _ | exact Cl.recsV _ | exact Cl.strsV _ | exact Cl.intsV _ | exact Cl.req _ | exact Cl.rsp _ | exact Cl.reqA _ | exact Cl.rspA _ | exact Cl.batsV _ | exact Cl.getB _ | exact Cl.encA _ | exact Cl.firstA _ | refine ClL.cons ?_ ?_ | refine Cl.tup ?_ | refine Cl.agg ?_ | exact ClO.RO _ _))) ?_
    (conv => arg 4; whnf); repeat (refine ⟨rfl, ?_⟩; conv => arg 4; whnf)
    refine ⟨fun hc => ?_, fun hc => ?_⟩
    · (conv => arg 4; whnf); repeat (refine ⟨rfl, ?_⟩; conv => arg 4; whnf)
      refine call0 awake5 (by (repeat' (first | with_reducible assumption | exact ClL.nil | exact Cl.int _ _ | exact Cl.bool _ | exact Cl.bl _ | exact Cl.bs _ | exact Cl.str _ | exact Cl.nils | exact Cl.nilp | exact Cl.rec _ | exact Cl.bat _ | exact Cl.recsV _ | exact Cl.strsV _ | exact Cl.intsV _ | exact Cl.req _ | exact Cl.rsp _ | exact Cl.reqA _ | exact Cl.rspA _ | exact Cl.batsV _ | exact Cl.getB _ | exact Cl.encA _ | exact Cl.firstA _ | refine ClL.cons ?_ ?_ | refine Cl.tup ?_ | refine Cl.agg ?_ | exact ClO.RO _ _))) (by (repeat' (first | with_reducible assumption | exact ClL.nil | exact Cl.int _ _ | exact Cl.bool _ | exact Cl.bl _ | exact Cl.bs _ | exact Cl.str _ | exact Cl.nils | exact Cl.nilp | exact Cl.rec _ | exact Cl.bat _ | exact Cl.recsV _ | exact Cl.strsV _ | exact Cl.intsV _ | exact Cl.req _ | exact Cl.rsp _ | exact Cl.reqA _ | exact Cl.rspA _ | exact Cl.batsV _ | exact Cl.getB _ | exact Cl.encA _ | exact Cl.firstA _ | refine ClL.cons ?_ ?_ | refine Cl.tup ?_ | refine Cl.agg ?_ | exact ClO.RO _ _))) ?_
      (conv => arg 4; whnf); repeat (refine ⟨rfl, ?_⟩; conv => arg 4; whnf)
      exact .inl rfl
    · have hc : b.chk = 0 := by simpa using hc
      (conv => arg 4; whnf); repeat (refine ⟨rfl, ?_⟩; conv => arg 4; whnf)
      refine tri_loopG (ι := GpI b ks) (fun a => ⟨[(6, .int .i64 a.i), (5, .ptr 1 0), (2, .ptr 0 0), (1, .sl .none 0 (boolsL ks))], [(2, .tip a.s), (1, .cells [.int .i64 b.base, .int .i64 b.last, .int .i64 b.prod, .int .i64 b.epoch, .int .i64 b.seq, .sl (.tok 2 a.s) 6 (recsL (kept (b.recs.take a.i) ks))]), (0, batO b)], 3, 114⟩) (fun a => b.recs.length - a.i) ⟨0, 0, Nat.zero_le _⟩ (WkG.tok rfl rfl ⟨Le.refl _ _, Le.refl _ _, Le.refl _ _, Le.refl _ _, trivial⟩ ⟨⟨_, rfl, rfl⟩, ⟨_, rfl, LeL.cons (Le.refl _ _) (LeL.cons (Le.refl _ _) (LeL.cons (Le.refl _ _) (LeL.cons (Le.refl _ _) (LeL.cons (Le.refl _ _) (LeL.cons (Le.nilsTok rfl) (LeL.nil _))))))⟩, ⟨_, rfl, LeO.refl _ _⟩, trivial⟩ ⟨rfl, rfl, rfl, Cl.boolsL ks _, trivial⟩ ⟨⟨by decide, rfl⟩, ⟨by decide, rfl⟩, ⟨by decide, renO_batO _ _⟩, trivial⟩) ?_
      rintro ⟨i, s, hi⟩
      dsimp only
      conv => arg 4; whnf
      refine ⟨fun hlt => ?_, fun hlt => ?_⟩
      · have hlt : i < b.recs.length := by rw [recs_length] at hlt; simp at hlt; omega
        obtain ⟨x, hx⟩ : ∃ x, b.recs[i]? = some x := ⟨_, List.getElem?_eq_getElem hlt⟩
        have hg := recs_get hx
        have hkt := kept_take (ks := ks) hx
        (conv => arg 4; whnf); repeat (refine ⟨rfl, ?_⟩; conv => arg 4; whnf)
        refine ⟨.bl (ks[i]?.getD false), fun (h : decide ((i : Int) < ((boolsL ks).length : Int)) = true) => ⟨by omega, ?_⟩, ?_⟩
        · have h : i < ks.length := by simp [boolsL] at h; omega
          obtain ⟨k, hk⟩ : ∃ k, ks[i]? = some k := ⟨_, List.getElem?_eq_getElem h⟩
          rw [hk]; exact boolsL_get hk
        conv => arg 4; whnf
        refine ⟨fun hk => ?_, fun hk => ?_⟩
        · have hk : ks[i]? = some true := by
            have hl : i < ks.length := by
              rcases Nat.lt_or_ge i ks.length with h | h
              · exact h
              · have : ¬ ((i : Int) < ((boolsL ks).length : Int)) := by simp [boolsL]; omega
                simp [this] at hk
            obtain ⟨k, hk'⟩ : ∃ k, ks[i]? = some k := ⟨_, List.getElem?_eq_getElem hl⟩
            rw [hk'] at hk ⊢
            cases k with
            | true => rfl
            | false => simp at hk
          rw [if_pos hk] at hkt
          (conv => arg 4; whnf); repeat (refine ⟨rfl, ?_⟩; conv => arg 4; whnf)
          refine ⟨x.av, ⟨by omega, hg⟩, ?_⟩
          (conv => arg 4; whnf); repeat (refine ⟨rfl, ?_⟩; conv => arg 4; whnf)
          refine ⟨⟨rfl, sizeOk 80 rfl ?_⟩, ?_⟩
          · have := (kept_sub (b.recs.take i) ks).length_le
            rw [List.length_append, recs_length]; simp only [List.length_cons, List.length_nil, List.length_take] at this ⊢; omega
          (conv => arg 4; whnf); repeat (refine ⟨rfl, ?_⟩; conv => arg 4; whnf)
          refine ⟨⟨i + 1, s + 1, by omega⟩, by show b.recs.length - (i + 1) < b.recs.length - i; omega, WkG.of rfl rfl ⟨Le.of_eq (succ_i64 (by omega)), Le.refl _ _, Le.refl _ _, Le.refl _ _, trivial⟩ ⟨⟨_, rfl, LeO.refl _ _⟩, ⟨_, rfl, ?_⟩, ⟨_, rfl, LeO.refl _ _⟩, trivial⟩ ⟨rfl, rfl, rfl, Cl.boolsL ks _, trivial⟩ ⟨⟨by decide, rfl⟩, ⟨by decide, ?_⟩, ⟨by decide, renO_batO _ _⟩, trivial⟩⟩
          · have e : recsL (kept (b.recs.take i) ks ++ [x]) = recsL (kept (b.recs.take i) ks) ++ [x.av] := by simp [recsL]
            rw [hkt, e]; exact LeL.refl _ _
          · simp only [renO, renL, ren, ren_recs, renP, cut_lt (show 2 < 3 by decide)]
        · have hk : ¬ ks[i]? = some true := fun h => by
            have hl : i < ks.length := by
              rcases Nat.lt_or_ge i ks.length with h' | h'
              · exact h'
              · rw [List.getElem?_eq_none h'] at h; cases h
            have : ((i : Int) < ((boolsL ks).length : Int)) := by simp [boolsL]; omega
            rw [h] at hk
            simp [this] at hk
          rw [if_neg hk, List.append_nil] at hkt
          conv => arg 4; whnf
          refine ⟨⟨i + 1, s, by omega⟩, by show b.recs.length - (i + 1) < b.recs.length - i; omega, WkG.of rfl rfl ⟨Le.of_eq (succ_i64 (by omega)), Le.refl _ _, Le.refl _ _, Le.refl _ _, trivial⟩ ⟨⟨_, rfl, LeO.refl _ _⟩, ⟨_, rfl, ?_⟩, ⟨_, rfl, LeO.refl _ _⟩, trivial⟩ ⟨rfl, rfl, rfl, Cl.boolsL ks _, trivial⟩ ⟨⟨by decide, rfl⟩, ⟨by decide, ?_⟩, ⟨by decide, renO_batO _ _⟩, trivial⟩⟩
          · rw [hkt]; exact LeL.refl _ _
          · simp only [renO, renL, ren, ren_recs, renP, cut_lt (show 2 < 3 by decide)]
      · have hlt : i = b.recs.length := by rw [recs_length] at hlt; simp at hlt; omega
        subst hlt
        conv => arg 4; whnf
        refine fin_exit ?_
        show holds _ _ _ _
        conv => arg 4; whnf
        rw [List.take_length]
        obtain ⟨c, hcc⟩ : ∃ c : Bat, c = ⟨b.base, b.last, b.prod, b.epoch, b.seq, kept b.recs ks⟩ := ⟨_, rfl⟩
        have hsub : c.recs.Sublist b.recs := by rw [hcc]; exact kept_sub _ _
        have hsl := hsub.length_le
        have hav : ∀ h, Le h (.agg [.int .i64 b.base, .int .i64 b.last, .int .i64 b.prod, .int .i64 b.epoch, .int .i64 b.seq, .sl (.tok 2 s) 6 (recsL (kept b.recs ks))]) c.av := fun h => by rw [hcc]; show Le _ _ (.agg _); (repeat' (first | with_reducible exact Le.refl _ _ | exact Le.bl | exact Le.lb | exact Le.nils | exact Le.nilsFull | exact Le.none | exact LeL.nil _ | refine LeL.cons ?_ ?_ | refine Le.tup ?_ | refine Le.agg ?_ | exact Le.refl _ _ | exact LeL.refl _ _))
        have hck := chk_sub hc (by omega) (c := c) (by rw [hcc]) (by rw [hcc]) (by rw [hcc]) (by rw [hcc]) (by rw [hcc]) hsub
        have hcd := dec_is hck.1
        conv => arg 4; whnf
        refine holds_args (args' := [c.av]) ⟨hav _, trivial⟩ ?_
        refine call0 (batEnc (by omega)) (by (repeat' (first | with_reducible assumption | exact ClL.nil | exact Cl.int _ _ | exact Cl.bool _ | exact Cl.bl _ | exact Cl.bs _ | exact Cl.str _ | exact Cl.nils | exact Cl.nilp | exact Cl.rec _ | exact Cl.bat _ | exact Cl.recsV _ | exact Cl.strsV _ | exact Cl.intsV _ | exact Cl.req _ | exact Cl.rsp _ | exact Cl.reqA _ | exact Cl.rspA _ | exact Cl.batsV _ | exact Cl.getB _ | exact Cl.encA _ | exact Cl.firstA _ | refine ClL.cons ?_ ?_ | refine Cl.tup ?_ | refine Cl.agg ?_ | exact ClO.RO _ _))) (Cl.encA c) ?_
        rw [encA_yes hck.1]
        (conv => arg 4; whnf); repeat (refine ⟨rfl, ?_⟩; conv => arg 4; whnf)
        refine call0 (batDecode (p := c.enc) (by have := (chk_fine hck.1).2.1; omega)) (by (repeat' (first | with_reducible assumption | exact ClL.nil | exact Cl.int _ _ | exact Cl.bool _ | exact Cl.bl _ | exact Cl.bs _ | exact Cl.str _ | exact Cl.nils | exact Cl.nilp | exact Cl.rec _ | exact Cl.bat _ | exact Cl.recsV _ | exact Cl.strsV _ | exact Cl.intsV _ | exact Cl.req _ | exact Cl.rsp _ | exact Cl.reqA _ | exact Cl.rspA _ | exact Cl.batsV _ | exact Cl.getB _ | exact Cl.encA _ | exact Cl.firstA _ | refine ClL.cons ?_ ?_ | refine Cl.tup ?_ | refine Cl.agg ?_ | exact ClO.RO _ _))) (by (repeat' (first | with_reducible assumption | exact ClL.nil | exact Cl.int _ _ | exact Cl.bool _ | exact Cl.bl _ | exact Cl.bs _ | exact Cl.str _ | exact Cl.nils | exact Cl.nilp | exact Cl.rec _ | exact Cl.bat _ | exact Cl.recsV _ | exact Cl.strsV _ | exact Cl.intsV _ | exact Cl.req _ | exact Cl.rsp _ | exact Cl.reqA _ | exact Cl.rspA _ | exact Cl.batsV _ | exact Cl.getB _ | exact Cl.encA _ | exact Cl.firstA _ | refine ClL.cons ?_ ?_ | refine Cl.tup ?_ | refine Cl.agg ?_ | exact ClO.RO _ _))) ?_
        rw [hcd.1, hcd.2]
        (conv => arg 4; whnf); repeat (refine ⟨rfl, ?_⟩; conv => arg 4; whnf)
        refine ⟨fun _ => ?_, fun h => absurd h (by first | (simp; done) | (simp [u8s]; done))⟩
        conv => arg 4; whnf
        refine ⟨fun _ => ?_, fun h => absurd h (by first | (simp; done) | (simp [u8s]; done))⟩
        conv => arg 4; whnf
        refine holds_args (args' := [c.av, c.av]) ⟨hav _, Le.refl _ _, trivial⟩ ?_
        refine call0 (batSame (a := c) (b := c) (by omega)) (by (repeat' (first | with_reducible assumption | exact ClL.nil | exact Cl.int _ _ | exact Cl.bool _ | exact Cl.bl _ | exact Cl.bs _ | exact Cl.str _ | exact Cl.nils | exact Cl.nilp | exact Cl.rec _ | exact Cl.bat _ | exact Cl.recsV _ | exact Cl.strsV _ | exact Cl.intsV _ | exact Cl.req _ | exact Cl.rsp _ | exact Cl.reqA _ | exact Cl.rspA _ | exact Cl.batsV _ | exact Cl.getB _ | exact Cl.encA _ | exact Cl.firstA _ | refine ClL.cons ?_ ?_ | refine Cl.tup ?_ | refine Cl.agg ?_ | exact ClO.RO _ _))) (by (repeat' (first | with_reducible assumption | exact ClL.nil | exact Cl.int _ _ | exact Cl.bool _ | exact Cl.bl _ | exact Cl.bs _ | exact Cl.str _ | exact Cl.nils | exact Cl.nilp | exact Cl.rec _ | exact Cl.bat _ | exact Cl.recsV _ | exact Cl.strsV _ | exact Cl.intsV _ | exact Cl.req _ | exact Cl.rsp _ | exact Cl.reqA _ | exact Cl.rspA _ | exact Cl.batsV _ | exact Cl.getB _ | exact Cl.encA _ | exact Cl.firstA _ | refine ClL.cons ?_ ?_ | refine Cl.tup ?_ | refine Cl.agg ?_ | exact ClO.RO _ _))) ?_
        (conv => arg 4; whnf); repeat (refine ⟨rfl, ?_⟩; conv => arg 4; whnf)
        refine ⟨fun _ => ?_, fun h => absurd h (by first | (simp; done) | (simp [u8s]; done))⟩
        conv => arg 4; whnf
        have q1 : (c.base == b.base) = true := by rw [hcc]; simp
        refine ⟨fun _ => ?_, fun h' => absurd (q1.symm.trans h') (by decide)⟩
        (conv => arg 4; whnf); repeat (refine ⟨rfl, ?_⟩; conv => arg 4; whnf)
        have q2 : (c.last == b.last) = true := by rw [hcc]; simp
        refine ⟨fun _ => ?_, fun h' => absurd (q2.symm.trans h') (by decide)⟩
        (conv => arg 4; whnf); repeat (refine ⟨rfl, ?_⟩; conv => arg 4; whnf)
        have q3 : (((recsL c.recs).length : Int) == ((recsL (kept b.recs ks)).length : Int)) = true := by rw [hcc]; simp
        refine ⟨fun _ => ?_, fun h' => absurd (q3.symm.trans h') (by decide)⟩
        (conv => arg 4; whnf); repeat (refine ⟨rfl, ?_⟩; conv => arg 4; whnf)
        refine holds_args (args' := [c.av]) ⟨hav _, trivial⟩ ?_
        refine call0 (batSize (b := c) (by omega)) (by (repeat' (first | with_reducible assumption | exact ClL.nil | exact Cl.int _ _ | exact Cl.bool _ | exact Cl.bl _ | exact Cl.bs _ | exact Cl.str _ | exact Cl.nils | exact Cl.nilp | exact Cl.rec _ | exact Cl.bat _ | exact Cl.recsV _ | exact Cl.strsV _ | exact Cl.intsV _ | exact Cl.req _ | exact Cl.rsp _ | exact Cl.reqA _ | exact Cl.rspA _ | exact Cl.batsV _ | exact Cl.getB _ | exact Cl.encA _ | exact Cl.firstA _ | refine ClL.cons ?_ ?_ | refine Cl.tup ?_ | refine Cl.agg ?_ | exact ClO.RO _ _))) (by (repeat' (first | with_reducible assumption | exact ClL.nil | exact Cl.int _ _ | exact Cl.bool _ | exact Cl.bl _ | exact Cl.bs _ | exact Cl.str _ | exact Cl.nils | exact Cl.nilp | exact Cl.rec _ | exact Cl.bat _ | exact Cl.recsV _ | exact Cl.strsV _ | exact Cl.intsV _ | exact Cl.req _ | exact Cl.rsp _ | exact Cl.reqA _ | exact Cl.rspA _ | exact Cl.batsV _ | exact Cl.getB _ | exact Cl.encA _ | exact Cl.firstA _ | refine ClL.cons ?_ ?_ | refine Cl.tup ?_ | refine Cl.agg ?_ | exact ClO.RO _ _))) ?_
        (conv => arg 4; whnf); repeat (refine ⟨rfl, ?_⟩; conv => arg 4; whnf)
        refine call0 (batSize (b := b) (by omega)) (by (repeat' (first | with_reducible assumption | exact ClL.nil | exact Cl.int _ _ | exact Cl.bool _ | exact Cl.bl _ | exact Cl.bs _ | exact Cl.str _ | exact Cl.nils | exact Cl.nilp | exact Cl.rec _ | exact Cl.bat _ | exact Cl.recsV _ | exact Cl.strsV _ | exact Cl.intsV _ | exact Cl.req _ | exact Cl.rsp _ | exact Cl.reqA _ | exact Cl.rspA _ | exact Cl.batsV _ | exact Cl.getB _ | exact Cl.encA _ | exact Cl.firstA _ | refine ClL.cons ?_ ?_ | refine Cl.tup ?_ | refine Cl.agg ?_ | exact ClO.RO _ _))) (by (repeat' (first | with_reducible assumption | exact ClL.nil | exact Cl.int _ _ | exact Cl.bool _ | exact Cl.bl _ | exact Cl.bs _ | exact Cl.str _ | exact Cl.nils | exact Cl.nilp | exact Cl.rec _ | exact Cl.bat _ | exact Cl.recsV _ | exact Cl.strsV _ | exact Cl.intsV _ | exact Cl.req _ | exact Cl.rsp _ | exact Cl.reqA _ | exact Cl.rspA _ | exact Cl.batsV _ | exact Cl.getB _ | exact Cl.encA _ | exact Cl.firstA _ | refine ClL.cons ?_ ?_ | refine Cl.tup ?_ | refine Cl.agg ?_ | exact ClO.RO _ _))) ?_
        (conv => arg 4; whnf); repeat (refine ⟨rfl, ?_⟩; conv => arg 4; whnf)
        have q4 : decide ((c.out.length : Int) ≤ IntKind.i64.wrap ((b.out.length : Int) + IntKind.i64.wrap (9 * ((recsL b.recs).length : Int)))) = true := by
          have l1 := (chk_fine hc).2.1
          have l2 := hck.2
          have l3 := (chk_fine hc).1.few
          rw [out_yes hck.1, out_yes hc, recs_length]
          exact gaps_size l2 l1 (by omega)
        refine ⟨fun _ => ?_, fun h' => absurd (q4.symm.trans h') (by decide)⟩
        (conv => arg 4; whnf); repeat (refine ⟨rfl, ?_⟩; conv => arg 4; whnf)
        refine call0 awake5 (by (repeat' (first | with_reducible assumption | exact ClL.nil | exact Cl.int _ _ | exact Cl.bool _ | exact Cl.bl _ | exact Cl.bs _ | exact Cl.str _ | exact Cl.nils | exact Cl.nilp | exact Cl.rec _ | exact Cl.bat _ | exact Cl.recsV _ | exact Cl.strsV _ | exact Cl.intsV _ | exact Cl.req _ | exact Cl.rsp _ | exact Cl.reqA _ | exact Cl.rspA _ | exact Cl.batsV _ | exact Cl.getB _ | exact Cl.encA _ | exact Cl.firstA _ | refine ClL.cons ?_ ?_ | refine Cl.tup ?_ | refine Cl.agg ?_ | exact ClO.RO _ _))) (by (repeat' (first | with_reducible assumption | exact ClL.nil | exact Cl.int _ _ | exact Cl.bool _ | exact Cl.bl _ | exact Cl.bs _ | exact Cl.str _ | exact Cl.nils | exact Cl.nilp | exact Cl.rec _ | exact Cl.bat _ | exact Cl.recsV _ | exact Cl.strsV _ | exact Cl.intsV _ | exact Cl.req _ | exact Cl.rsp _ | exact Cl.reqA _ | exact Cl.rspA _ | exact Cl.batsV _ | exact Cl.getB _ | exact Cl.encA _ | exact Cl.firstA _ | refine ClL.cons ?_ ?_ | refine Cl.tup ?_ | refine Cl.agg ?_ | exact ClO.RO _ _))) ?_
        (conv => arg 4; whnf); repeat (refine ⟨rfl, ?_⟩; conv => arg 4; whnf)
        exact .inl rfl
end Go.Proofs.Ythclmkhkchbpiaa

namespace Go.Proofs.Ythclmkhkchbpiaa
set_option maxRecDepth 100000
set_option maxHeartbeats 80000000
open Go.Sym

theorem inv0 (W : World) : Inv (F0 W) V0 [] W :=
  ⟨fun b o x h => h, fun id o hg => by simp [Go.Sym.get] at hg, fun id o b off hg => by simp [Go.Sym.get] at hg, fun id id' o o' b hg => by simp [Go.Sym.get] at hg⟩

theorem bytes_lt {els : List AV} {n : Nat} (h : els.length * n ≤ reachBytes) (hn : 1 ≤ n) : els.length ≤ 1000000000000000 := by
  have : els.length * 1 ≤ els.length * n := Nat.mul_le_mul_left _ hn
  unfold reachBytes at h
  omega

theorem recs_of {els : List AV} (h : ∀ x ∈ els, ∃ m cs, isElem 6 x cs ∧ Sym.Good Try.prog m 68 cs) : ∃ l : List Rec, l.length = els.length ∧ LeL [] els (recsL l) := by
  induction els with
  | nil => exact ⟨[], rfl, LeL.refl _ _⟩
  | cons x els ih =>
    obtain ⟨l, hl, hle⟩ := ih fun y hy => h y (List.mem_cons_of_mem _ hy)
    obtain ⟨m, cs, he, g⟩ := h x List.mem_cons_self
    obtain ⟨m, g⟩ := Sym.Good.struct Try.underlying68 (by kernel_rfl) g
    obtain ⟨_, _, rfl, g1, _, _, rfl, g2, _, _, rfl, g3, _, _, rfl, g4, _, _, rfl, g5, _, _, rfl, g6, rfl⟩ := g
    obtain ⟨x1, rfl, w1⟩ := Sym.Good.int Try.underlying3 g1
    obtain ⟨x2, rfl, w2⟩ := Sym.Good.int Try.underlying3 g2
    obtain ⟨x3, rfl⟩ := Sym.Good.bool Try.underlying4 g3
    obtain ⟨e4, rfl, z4, q4⟩ := Sym.Good.slice (k := 0) Try.underlying25 (by kernel_rfl) (by kernel_rfl) g4
    obtain ⟨x5, rfl⟩ := Sym.Good.bool Try.underlying4 g5
    obtain ⟨e6, rfl, z6, q6⟩ := Sym.Good.slice (k := 0) Try.underlying25 (by kernel_rfl) (by kernel_rfl) g6
    obtain ⟨l4, rfl⟩ := bytes_of Try.underlying5 q4
    obtain ⟨l6, rfl⟩ := bytes_of Try.underlying5 q6
    refine ⟨⟨x1, x2, x3, l4, x5, l6⟩ :: l, by simp [hl], ?_⟩
    simp only [isElem] at he
    rw [if_neg (by decide)] at he
    subst he
    exact LeL.cons (Le.agg (LeL.cons (Le.refl _ _) (LeL.cons (Le.refl _ _) (LeL.cons Le.bl (LeL.cons (Le.refl _ _) (LeL.cons Le.bl (LeL.cons (Le.refl _ _) (LeL.nil _)))))))) hle

theorem bat_of {n : Nat} {l : List AV} (g : Sym.Good Try.prog n 58 l) : ∃ b : Bat, b.recs.length ≤ 1000000000000000 ∧ Le [] (.agg l) b.av := by
  obtain ⟨m, g⟩ := Sym.Good.struct Try.underlying58 (by kernel_rfl) g
  obtain ⟨_, _, rfl, g1, _, _, rfl, g2, _, _, rfl, g3, _, _, rfl, g4, _, _, rfl, g5, _, _, rfl, g6, rfl⟩ := g
  obtain ⟨x1, rfl, w1⟩ := Sym.Good.int Try.underlying3 g1
  obtain ⟨x2, rfl, w2⟩ := Sym.Good.int Try.underlying3 g2
  obtain ⟨x3, rfl, w3⟩ := Sym.Good.int Try.underlying3 g3
  obtain ⟨x4, rfl, w4⟩ := Sym.Good.int Try.underlying3 g4
  obtain ⟨x5, rfl, w5⟩ := Sym.Good.int Try.underlying3 g5
  obtain ⟨e6, rfl, z6, q6⟩ := Sym.Good.slice (k := 6) Try.underlying56 (by kernel_rfl) (by kernel_rfl) g6
  obtain ⟨r, hl, hle⟩ := recs_of q6
  have hz := bytes_lt z6 (of_decide_eq_true (by kernel_rfl))
  refine ⟨⟨x1, x2, x3, x4, x5, r⟩, by simp only; omega, ?_⟩
  exact Le.agg (LeL.cons (Le.refl _ _) (LeL.cons (Le.refl _ _) (LeL.cons (Le.refl _ _) (LeL.cons (Le.refl _ _) (LeL.cons (Le.refl _ _) (LeL.cons (Le.slL hle fun h => List.eq_nil_of_length_eq_zero (by have := congrArg List.length h; simp only [List.length_nil] at this; simp only [recsL, List.length_map]; omega)) (LeL.nil _)))))))

theorem bools_of {t : TypeId} {els : List AV} (hu : Try.prog.underlying t = some .bool) (h : ∀ x ∈ els, ∃ m cs, isElem 0 x cs ∧ Sym.Good Try.prog m t cs) : ∃ l : List Bool, els = boolsL l := by
  induction els with
  | nil => exact ⟨[], rfl⟩
  | cons x els ih =>
    obtain ⟨l, rfl⟩ := ih fun y hy => h y (List.mem_cons_of_mem _ hy)
    obtain ⟨m, cs, he, g⟩ := h x List.mem_cons_self
    obtain ⟨z, rfl⟩ := Sym.Good.bool hu g
    simp only [isElem, if_true, List.cons.injEq, and_true] at he
    subst he
    exact ⟨z :: l, rfl⟩
end Go.Proofs.Ythclmkhkchbpiaa

namespace Go.Proofs.Ythclmkhkchbpiaa
set_option maxRecDepth 100000
set_option maxHeartbeats 80000000
open Go.Sym
theorem u8_of {a : Int} (h : (Lit.int .u8 a).wf = true) : ∃ x : UInt8, a = (x.toNat : Int) := by
  simp only [Lit.wf, Bool.and_eq_true, decide_eq_true_eq] at h
  have h0 : 0 ≤ a ∧ a ≤ 255 := h
  exact ⟨UInt8.ofNat a.toNat, by simp; omega⟩
end Go.Proofs.Ythclmkhkchbpiaa
