/-
  The batch that bytes begin with, as the document says.
-/
import Derived.Test.YthclmkhkchbpiaaTxt3
set_option linter.unusedVariables false
set_option linter.unusedSimpArgs false
namespace Go.Proofs.Ythclmkhkchbpiaa
set_option maxRecDepth 100000
set_option maxHeartbeats 80000000
open Go.Sym

theorem slice_at {P pre x post : List UInt8} {a b : Nat} (h : P = pre ++ (x ++ post)) (ha : pre.length = a) (hb : b = a + x.length) : (P.take b).drop a = x := by
  subst h ha hb
  rw [List.take_append, List.take_of_length_le (by omega), List.drop_left, Nat.add_sub_cancel_left, List.take_left]

/-- The number that stands in bytes. -/
def fxAt (P : List UInt8) (a b : Nat) : Int := IntKind.i64.wrap (unfixed 0 ((P.take b).drop a) : Nat)

theorem fxAt_eq {P pre post : List UInt8} {n : Int} {a b k : Nat} (h : P = pre ++ (fixed n.toNat k ++ post)) (ha : pre.length = a) (hb : b = a + k) (hn : 0 ≤ n) (hk : n < 256 ^ k) (hm : n ≤ 9223372036854775807) : fxAt P a b = n := by
  have e : (256 : Int) ^ k = ((256 ^ k : Nat) : Int) := by simp
  have z : 0 = n.toNat / 256 ^ k := by rw [Nat.div_eq_of_lt]; omega
  rw [fxAt, slice_at h ha (by rw [hb, fixed_len]), unfixed_fixed k 0 z, IntKind.wrap_i64]
  omega

theorem fxAt_nat {P pre post : List UInt8} {n a b k : Nat} (h : P = pre ++ (fixed n k ++ post)) (ha : pre.length = a) (hb : b = a + k) (hk : n < 256 ^ k) (hm : n ≤ 9223372036854775807) : fxAt P a b = (n : Int) := by
  have e : (256 : Int) ^ k = ((256 ^ k : Nat) : Int) := by simp
  exact fxAt_eq (n := (n : Int)) (by rw [Int.toNat_natCast]; exact h) ha hb (by omega) (by omega) (by omega)

theorem getFx {P : List UInt8} {a b : Nat} (h : b - a ≤ 8) : CallOK Try.prog 25 [.sl .none 0 (((u8s P).take b).drop a)] [] 0 (Out (.int .i64 (fxAt P a b)) [] 0) := by
  rw [u8s_take, u8s_drop]
  exact refGetFixed (by simp; omega)
theorem getFx0 {P : List UInt8} {b : Nat} (h : b ≤ 8) : CallOK Try.prog 25 [.sl .none 0 ((u8s P).take b)] [] 0 (Out (.int .i64 (fxAt P 0 b)) [] 0) := by
  rw [u8s_take, fxAt, List.drop_zero]
  exact refGetFixed (by simp; omega)

theorem clFx (P : List UInt8) (a b : Nat) : ClL [.sl .none 0 (((u8s P).take b).drop a)] := by
  rw [u8s_take, u8s_drop]
  exact ClL.cons (Cl.bs _) ClL.nil
theorem clFx0 (P : List UInt8) (b : Nat) : ClL [.sl .none 0 ((u8s P).take b)] := by
  rw [u8s_take]
  exact ClL.cons (Cl.bs _) ClL.nil

/-- Where a batch's numbers stand. -/
theorem enc_at {b : Bat} (h : b.chk = 0) : (fxAt b.enc 0 8 = b.base ∧ fxAt b.enc 16 24 = b.last - b.base ∧ fxAt b.enc 24 32 = b.first ∧ fxAt b.enc 32 40 = b.prod ∧ fxAt b.enc 40 42 = b.epoch ∧ fxAt b.enc 42 46 = b.seq ∧ fxAt b.enc 46 50 = (b.recs.length : Int)) ∧ b.enc.drop 50 = recsB b.recs b.first b.base := by
  obtain ⟨hf, -, -⟩ := chk_fine h
  have ht := first_time hf
  have hh := hf.head
  have hn := hf.few
  unfold HeadBad at hh
  obtain ⟨A, hA⟩ : ∃ A, A = fixed b.base.toNat 8 ++ fixed (b.rest.length + 4) 4 ++ fixed (crcSum b.rest) 4 := ⟨_, rfl⟩
  have lA : A.length = 16 := by rw [hA]; simp only [List.length_append, fixed_len]
  have e0 : b.enc = [] ++ (fixed b.base.toNat 8 ++ (fixed (b.rest.length + 4) 4 ++ (fixed (crcSum b.rest) 4 ++ b.rest))) := by rw [Bat.enc]; simp only [List.append_assoc, List.nil_append]
  have e1 : b.enc = A ++ (fixed (b.last - b.base).toNat 8 ++ (fixed b.first.toNat 8 ++ (fixed b.prod.toNat 8 ++ (fixed b.epoch.toNat 2 ++ (fixed b.seq.toNat 4 ++ (fixed b.recs.length 4 ++ recsB b.recs b.first b.base)))))) := by
    rw [Bat.enc, ← hA]
    exact congrArg (A ++ ·) (by simp only [Bat.rest, Bat.head, List.append_assoc])
  have p8 : (256 : Int) ^ 8 = 18446744073709551616 := by decide
  have p4 : (256 : Int) ^ 4 = 4294967296 := by decide
  have p2 : (256 : Int) ^ 2 = 65536 := by decide
  have q4 : (256 : Nat) ^ 4 = 4294967296 := by decide
  refine ⟨⟨fxAt_eq e0 rfl rfl (by omega) (by rw [p8]; omega) (by omega), fxAt_eq (pre := A) (k := 8) (by first | exact e1 | (rw [e1]; simp only [List.append_assoc]; rfl)) (by simp only [List.length_append, fixed_len, lA]) rfl (by omega) (by rw [p8]; omega) (by omega), fxAt_eq (pre := A ++ fixed (b.last - b.base).toNat 8) (k := 8) (by first | exact e1 | (rw [e1]; simp only [List.append_assoc]; rfl)) (by simp only [List.length_append, fixed_len, lA]) rfl (by omega) (by rw [p8]; omega) (by omega), fxAt_eq (pre := A ++ fixed (b.last - b.base).toNat 8 ++ fixed b.first.toNat 8) (k := 8) (by first | exact e1 | (rw [e1]; simp only [List.append_assoc]; rfl)) (by simp only [List.length_append, fixed_len, lA]) rfl (by omega) (by rw [p8]; omega) (by omega), fxAt_eq (pre := A ++ fixed (b.last - b.base).toNat 8 ++ fixed b.first.toNat 8 ++ fixed b.prod.toNat 8) (k := 2) (by first | exact e1 | (rw [e1]; simp only [List.append_assoc]; rfl)) (by simp only [List.length_append, fixed_len, lA]) rfl (by omega) (by rw [p2]; omega) (by omega), fxAt_eq (pre := A ++ fixed (b.last - b.base).toNat 8 ++ fixed b.first.toNat 8 ++ fixed b.prod.toNat 8 ++ fixed b.epoch.toNat 2) (k := 4) (by first | exact e1 | (rw [e1]; simp only [List.append_assoc]; rfl)) (by simp only [List.length_append, fixed_len, lA]) rfl (by omega) (by rw [p4]; omega) (by omega), fxAt_nat (pre := A ++ fixed (b.last - b.base).toNat 8 ++ fixed b.first.toNat 8 ++ fixed b.prod.toNat 8 ++ fixed b.epoch.toNat 2 ++ fixed b.seq.toNat 4) (k := 4) (by first | exact e1 | (rw [e1]; simp only [List.append_assoc]; rfl)) (by simp only [List.length_append, fixed_len, lA]) rfl (by omega) (by omega)⟩, ?_⟩
  rw [show b.enc = (A ++ fixed (b.last - b.base).toNat 8 ++ fixed b.first.toNat 8 ++ fixed b.prod.toNat 8 ++ fixed b.epoch.toNat 2 ++ fixed b.seq.toNat 4 ++ fixed b.recs.length 4) ++ recsB b.recs b.first b.base by rw [e1]; simp only [List.append_assoc]]
  exact List.drop_left' (by simp only [List.length_append, fixed_len, lA])

theorem refGetBytesE {b : List UInt8} {most : Int} (hb : b.length ≤ 100000000000000) : CallOK Try.prog 29 [bs b, .int .i64 most] [] 0
    (fun a h m => ∃ x : ByX, (x.v.length ≤ b.length ∧ x.r.length ≤ b.length ∧ ∀ s t, b = lenB s ++ t → s.length ≤ 1000000000 → (s.length : Int) ≤ most → x.v = s ∧ x.r = t ∧ x.e = 0) ∧ Out (.tup [bs x.v, bs x.r, .int .i64 x.e]) [] 0 a h m) :=
  (refGetBytes hb).mono fun a h m ⟨e1, e2, e3⟩ => by
    unfold bytesA at e1
    have no : ∀ s t, b = lenB s ++ t → s.length ≤ 1000000000 → getL 0 0 b = some (zig (s.length : Int), (put (s.length : Int)).length) ∧ zag (zig (s.length : Int)) = (s.length : Int) ∧ b.drop (put (s.length : Int)).length = s ++ t ∧ b.length = (put (s.length : Int)).length + (s.length + t.length) := fun s t e hs => by
      have hn : I64 (s.length : Int) := by unfold I64; omega
      rw [lenB, List.append_assoc] at e
      refine ⟨by rw [e, getL_at hn], zag_zig hn, by rw [e, List.drop_left], by rw [e, List.length_append, List.length_append]⟩
    cases hg : getL 0 0 b with
    | none =>
      rw [hg] at e1
      refine ⟨⟨[], [], 2⟩, ⟨by simp, by simp, fun s t e hs hm => ?_⟩, e1, e2, e3⟩
      rw [(no s t e hs).1] at hg; cases hg
    | some uk =>
      obtain ⟨u, k⟩ := uk
      rw [hg] at e1
      have no := fun s t e hs => by have := no s t e hs; rw [hg] at this; exact this
      simp only at e1
      split at e1
      · rename_i hc
        refine ⟨⟨[], [], 2⟩, ⟨by simp, by simp, fun s t e hs hm => ?_⟩, e1, e2, e3⟩
        obtain ⟨q1, q2, q3, q4⟩ := no s t e hs
        simp only [Option.some.injEq, Prod.mk.injEq] at q1
        rw [q1.1, q1.2, q2] at hc
        omega
      · split at e1
        · rename_i hc
          refine ⟨⟨[], [], 3⟩, ⟨by simp, by simp, fun s t e hs hm => ?_⟩, e1, e2, e3⟩
          obtain ⟨q1, q2, q3, q4⟩ := no s t e hs
          simp only [Option.some.injEq, Prod.mk.injEq] at q1
          rw [q1.1, q2] at hc
          omega
        · refine ⟨⟨_, _, 0⟩, ⟨by first | (simp; done) | (simp; omega), by first | (simp; done) | (simp; omega), fun s t e hs hm => ?_⟩, e1, e2, e3⟩
          obtain ⟨q1, q2, q3, q4⟩ := no s t e hs
          simp only [Option.some.injEq, Prod.mk.injEq] at q1
          simp only [q1.1, q1.2, q2, q3, Int.toNat_natCast, List.take_left, List.drop_left, and_self]

structure RfI (P p : List UInt8) (n : Int) where
  i : Nat
  s : Nat
  r : List UInt8
  l : List Rec
  hi : (i : Int) ≤ max n 0
  hl : l.length = i
  hr : r.length ≤ P.length
  h : ∀ b : Bat, b.begins p → l = b.recs.take i ∧ r = recsB (b.recs.drop i) b.first b.base

theorem refFirst {p : List UInt8} (hl : p.length ≤ 1000000000) : CallOK Try.prog 41 [bs p] [] 0
    (fun a h m => ∃ x : FsX, ((x.e = 0 ∧ x.b.begins p ∧ x.n = x.b.enc.length ∧ ∀ b : Bat, b.begins p → x.b = b) ∨ (x.e = 2 ∧ x.b = Bat.none ∧ x.n = 0 ∧ ∀ b : Bat, ¬ b.begins p)) ∧ Out (.tup [x.b.av, .int .i64 x.n]) [] 0 a h m) := by
  refine CallOK.fitE (by decide) ?_
  refine callOK Try.call41 Try.func41 Try.ntmps41 rfl ?_
  conv => arg 4; whnf
  have bl : ∀ b : Bat, b.begins p → 50 ≤ p.length ∧ b.enc.length ≤ p.length ∧ b.enc.length ≤ 65536 ∧ 50 ≤ b.enc.length := fun b hb => by
    obtain ⟨t, ht⟩ := hb.2
    obtain ⟨hf, hle, -⟩ := chk_fine hb.1
    have h1 := batE_len (b := b)
    have h2 : b.rest.length = 34 + (recsB b.recs b.first b.base).length := by rw [Bat.rest, List.length_append, head_len]
    have h3 : p.length = b.enc.length + t.length := by rw [← ht, List.length_append]
    omega
  refine ⟨fun h => ?_, fun h => ?_⟩
  · simp only [Bool.cond_true_left, Bool.cond_false_right, Bool.or_eq_true, Bool.and_eq_true, Bool.not_eq_true', decide_eq_true_eq, beq_iff_eq, bne_iff_ne, u8s_length, Bool.not_eq_true, gt_iff_lt, ge_iff_le] at h
    (conv => arg 4; whnf); repeat (refine ⟨rfl, ?_⟩; conv => arg 4; whnf)
    refine ⟨⟨Bat.none, 0, 2⟩, .inr ⟨rfl, rfl, rfl, fun b hb => ?_⟩, by decide, by (repeat' (first | with_reducible exact Le.refl _ _ | exact Le.bl | exact Le.lb | exact Le.nils | exact Le.nilsFull | exact Le.none | exact LeL.nil _ | refine LeL.cons ?_ ?_ | refine Le.tup ?_ | refine Le.agg ?_ | exact Le.refl _ _ | exact LeL.refl _ _)), trivial, (by (repeat' (first | with_reducible assumption | exact ClL.nil | exact Cl.int _ _ | exact Cl.bool _ | exact Cl.bl _ | exact Cl.bs _ | exact Cl.str _ | exact Cl.nils | exact Cl.nilp | exact Cl.rec _ | exact Cl.bat _ | exact Cl.recsV _ | exact Cl.strsV _ | exact Cl.intsV _ | exact Cl.req _ | exact Cl.rsp _ | exact Cl.reqA _ | exact Cl.rspA _ | exact Cl.batsV _ | exact Cl.getB _ | exact Cl.encA _ | exact Cl.firstA _ | refine ClL.cons ?_ ?_ | refine Cl.tup ?_ | refine Cl.agg ?_ | exact ClO.RO _ _)) : Cl _) _, trivial⟩
    have := bl b hb
    omega
  · rw [← Bool.not_eq_true] at h; simp only [Bool.cond_true_left, Bool.cond_false_right, Bool.or_eq_true, Bool.and_eq_true, Bool.not_eq_true', decide_eq_true_eq, beq_iff_eq, bne_iff_ne, u8s_length, gt_iff_lt, ge_iff_le] at h
    (conv => arg 4; whnf); repeat (refine ⟨rfl, ?_⟩; conv => arg 4; whnf)
    refine ⟨by rw [u8s_length]; omega, ?_⟩
    (conv => arg 4; whnf); repeat (refine ⟨rfl, ?_⟩; conv => arg 4; whnf)
    refine call0 (getFx (P := p) (a := 8) (b := 12) (by decide)) (clFx _ _ _) (Cl.int _ _) ?_
    (conv => arg 4; whnf); repeat (refine ⟨rfl, ?_⟩; conv => arg 4; whnf)
    obtain ⟨n0, hn0⟩ : ∃ n0, n0 = fxAt p 8 12 := ⟨_, rfl⟩
    rw [← hn0]
    have gn : ∀ b : Bat, b.begins p → n0 = (b.enc.length : Int) - 12 := fun b hb => by
      obtain ⟨h1, h2, h3, h4⟩ := bl b hb
      obtain ⟨t, ht⟩ := hb.2
      have hlen := batE_len (b := b)
      rw [hn0, fxAt_nat (n := b.rest.length + 4) (k := 4) (pre := fixed b.base.toNat 8) (post := fixed (crcSum b.rest) 4 ++ (b.rest ++ t)) (by rw [← ht, Bat.enc]; simp only [List.append_assoc]) (fixed_len _ _) rfl (by omega) (by omega)]
      omega
    have hw : IntKind.i64.wrap ((p.length : Int) - 12) = (p.length : Int) - 12 := by rw [IntKind.wrap_i64]; omega
    refine ⟨fun h2 => ?_, fun h2 => ?_⟩
    · simp only [Bool.cond_true_left, Bool.cond_false_right, Bool.or_eq_true, Bool.and_eq_true, Bool.not_eq_true', decide_eq_true_eq, beq_iff_eq, bne_iff_ne, u8s_length, Bool.not_eq_true, gt_iff_lt, ge_iff_le] at h2
      rw [hw] at h2
      (conv => arg 4; whnf); repeat (refine ⟨rfl, ?_⟩; conv => arg 4; whnf)
      refine ⟨⟨Bat.none, 0, 2⟩, .inr ⟨rfl, rfl, rfl, fun b hb => ?_⟩, by decide, by (repeat' (first | with_reducible exact Le.refl _ _ | exact Le.bl | exact Le.lb | exact Le.nils | exact Le.nilsFull | exact Le.none | exact LeL.nil _ | refine LeL.cons ?_ ?_ | refine Le.tup ?_ | refine Le.agg ?_ | exact Le.refl _ _ | exact LeL.refl _ _)), trivial, (by (repeat' (first | with_reducible assumption | exact ClL.nil | exact Cl.int _ _ | exact Cl.bool _ | exact Cl.bl _ | exact Cl.bs _ | exact Cl.str _ | exact Cl.nils | exact Cl.nilp | exact Cl.rec _ | exact Cl.bat _ | exact Cl.recsV _ | exact Cl.strsV _ | exact Cl.intsV _ | exact Cl.req _ | exact Cl.rsp _ | exact Cl.reqA _ | exact Cl.rspA _ | exact Cl.batsV _ | exact Cl.getB _ | exact Cl.encA _ | exact Cl.firstA _ | refine ClL.cons ?_ ?_ | refine Cl.tup ?_ | refine Cl.agg ?_ | exact ClO.RO _ _)) : Cl _) _, trivial⟩
      have h3 := bl b hb
      have h4 := gn b hb
      omega
    · rw [← Bool.not_eq_true] at h2; simp only [Bool.cond_true_left, Bool.cond_false_right, Bool.or_eq_true, Bool.and_eq_true, Bool.not_eq_true', decide_eq_true_eq, beq_iff_eq, bne_iff_ne, u8s_length, gt_iff_lt, ge_iff_le] at h2
      rw [hw] at h2
      (conv => arg 4; whnf); repeat (refine ⟨rfl, ?_⟩; conv => arg 4; whnf)
      have hw2 : IntKind.i64.wrap (12 + n0) = 12 + n0 := by rw [IntKind.wrap_i64]; omega
      refine ⟨by rw [hw2, u8s_length]; omega, ?_⟩
      (conv => arg 4; whnf); repeat (refine ⟨rfl, ?_⟩; conv => arg 4; whnf)
      obtain ⟨P, hP⟩ : ∃ P, P = p.take (12 + n0).toNat := ⟨_, rfl⟩
      have eP : List.take (IntKind.i64.wrap (12 + n0)).toNat (u8s p) = u8s P := by rw [hw2, u8s_take, hP]
      have lP : P.length = (12 + n0).toNat := by rw [hP, List.length_take]; omega
      have gP : ∀ b : Bat, b.begins p → P = b.enc := fun b hb => by
        obtain ⟨t, ht⟩ := hb.2
        have h4 := gn b hb
        rw [hP, ← ht, List.take_left' (by omega)]
      rw [eP]
      refine ⟨by rw [u8s_length]; omega, ?_⟩
      (conv => arg 4; whnf); repeat (refine ⟨rfl, ?_⟩; conv => arg 4; whnf)
      refine ⟨by rw [u8s_length]; omega, ?_⟩
      (conv => arg 4; whnf); repeat (refine ⟨rfl, ?_⟩; conv => arg 4; whnf)
      refine call0 (getFx0 (P := P) (b := 8) (by decide)) (clFx0 _ _) (Cl.int _ _) ?_
      (conv => arg 4; whnf); repeat (refine ⟨rfl, ?_⟩; conv => arg 4; whnf)
      refine call0 (getFx (P := P) (a := 16) (b := 24) (by decide)) (clFx _ _ _) (Cl.int _ _) ?_
      (conv => arg 4; whnf); repeat (refine ⟨rfl, ?_⟩; conv => arg 4; whnf)
      refine ⟨by rw [u8s_length]; omega, ?_⟩
      (conv => arg 4; whnf); repeat (refine ⟨rfl, ?_⟩; conv => arg 4; whnf)
      refine call0 (getFx (P := P) (a := 24) (b := 32) (by decide)) (clFx _ _ _) (Cl.int _ _) ?_
      (conv => arg 4; whnf); repeat (refine ⟨rfl, ?_⟩; conv => arg 4; whnf)
      have gF : ∀ b : Bat, b.begins p → (fxAt P 0 8 = b.base ∧ fxAt P 16 24 = b.last - b.base ∧ fxAt P 24 32 = b.first ∧ fxAt P 32 40 = b.prod ∧ fxAt P 40 42 = b.epoch ∧ fxAt P 42 46 = b.seq ∧ fxAt P 46 50 = (b.recs.length : Int)) ∧ P.drop 50 = recsB b.recs b.first b.base := fun b hb => by
        rw [gP b hb]; exact enc_at hb.1
      obtain ⟨y0, hy0⟩ : ∃ y, y = fxAt P 0 8 := ⟨_, rfl⟩
      obtain ⟨y1, hy1⟩ : ∃ y, y = fxAt P 16 24 := ⟨_, rfl⟩
      obtain ⟨y2, hy2⟩ : ∃ y, y = fxAt P 24 32 := ⟨_, rfl⟩
      rw [← hy0, ← hy1, ← hy2] at gF ⊢
      clear hy0 hy1 hy2
      conv => arg 4; whnf
      refine ⟨fun h3 => ?_, fun h3 => ?_⟩
      · simp only [Bool.cond_true_left, Bool.cond_false_right, Bool.or_eq_true, Bool.and_eq_true, Bool.not_eq_true', decide_eq_true_eq, beq_iff_eq, bne_iff_ne, u8s_length, Bool.not_eq_true, gt_iff_lt, ge_iff_le] at h3
        have hw3 : 0 ≤ y0 ∧ y0 ≤ 4611686018427387904 → IntKind.i64.wrap (4611686018427387904 - y0) = 4611686018427387904 - y0 := fun h => by rw [IntKind.wrap_i64]; omega
        (conv => arg 4; whnf); repeat (refine ⟨rfl, ?_⟩; conv => arg 4; whnf)
        refine ⟨⟨Bat.none, 0, 2⟩, .inr ⟨rfl, rfl, rfl, fun b hb => ?_⟩, by decide, by (repeat' (first | with_reducible exact Le.refl _ _ | exact Le.bl | exact Le.lb | exact Le.nils | exact Le.nilsFull | exact Le.none | exact LeL.nil _ | refine LeL.cons ?_ ?_ | refine Le.tup ?_ | refine Le.agg ?_ | exact Le.refl _ _ | exact LeL.refl _ _)), trivial, (by (repeat' (first | with_reducible assumption | exact ClL.nil | exact Cl.int _ _ | exact Cl.bool _ | exact Cl.bl _ | exact Cl.bs _ | exact Cl.str _ | exact Cl.nils | exact Cl.nilp | exact Cl.rec _ | exact Cl.bat _ | exact Cl.recsV _ | exact Cl.strsV _ | exact Cl.intsV _ | exact Cl.req _ | exact Cl.rsp _ | exact Cl.reqA _ | exact Cl.rspA _ | exact Cl.batsV _ | exact Cl.getB _ | exact Cl.encA _ | exact Cl.firstA _ | refine ClL.cons ?_ ?_ | refine Cl.tup ?_ | refine Cl.agg ?_ | exact ClO.RO _ _)) : Cl _) _, trivial⟩
        obtain ⟨hf, -, -⟩ := chk_fine hb.1
        have ht := first_time hf
        have hh := hf.head
        unfold HeadBad at hh
        obtain ⟨⟨f0, f1, f2, -⟩, -⟩ := gF b hb
        rw [hw3 (by omega)] at h3
        omega
      · rw [← Bool.not_eq_true] at h3; simp only [Bool.cond_true_left, Bool.cond_false_right, Bool.or_eq_true, Bool.and_eq_true, Bool.not_eq_true', decide_eq_true_eq, beq_iff_eq, bne_iff_ne, u8s_length, gt_iff_lt, ge_iff_le] at h3
        (conv => arg 4; whnf); repeat (refine ⟨rfl, ?_⟩; conv => arg 4; whnf)
        have l50 : 50 ≤ P.length := by omega
        (repeat (refine ⟨by first | (rw [u8s_length]; omega) | (simp only [u8s_length]; omega) | omega | decide, ?_⟩; conv => arg 4; whnf))
        refine call0 (getFx (P := P) (a := 32) (b := 40) (by decide)) (clFx _ _ _) (Cl.int _ _) ?_
        (conv => arg 4; whnf); repeat (refine ⟨rfl, ?_⟩; conv => arg 4; whnf)
        refine call0 (getFx (P := P) (a := 40) (b := 42) (by decide)) (clFx _ _ _) (Cl.int _ _) ?_
        (conv => arg 4; whnf); repeat (refine ⟨rfl, ?_⟩; conv => arg 4; whnf)
        refine call0 (getFx (P := P) (a := 42) (b := 46) (by decide)) (clFx _ _ _) (Cl.int _ _) ?_
        (conv => arg 4; whnf); repeat (refine ⟨rfl, ?_⟩; conv => arg 4; whnf)
        (repeat (refine ⟨by first | (rw [u8s_length]; omega) | (simp only [u8s_length]; omega) | omega | decide, ?_⟩; conv => arg 4; whnf))
        refine call0 (getFx (P := P) (a := 46) (b := 50) (by decide)) (clFx _ _ _) (Cl.int _ _) ?_
        (conv => arg 4; whnf); repeat (refine ⟨rfl, ?_⟩; conv => arg 4; whnf)
        obtain ⟨y3, hy3⟩ : ∃ y, y = fxAt P 32 40 := ⟨_, rfl⟩
        obtain ⟨y4, hy4⟩ : ∃ y, y = fxAt P 40 42 := ⟨_, rfl⟩
        obtain ⟨y5, hy5⟩ : ∃ y, y = fxAt P 42 46 := ⟨_, rfl⟩
        obtain ⟨y6, hy6⟩ : ∃ y, y = fxAt P 46 50 := ⟨_, rfl⟩
        rw [← hy3, ← hy4, ← hy5, ← hy6] at gF ⊢
        clear hy3 hy4 hy5 hy6
        conv => arg 4; whnf
        refine ⟨fun h4 => ?_, fun h4 => ?_⟩
        · simp only [Bool.cond_true_left, Bool.cond_false_right, Bool.or_eq_true, Bool.and_eq_true, Bool.not_eq_true', decide_eq_true_eq, beq_iff_eq, bne_iff_ne, u8s_length, Bool.not_eq_true, gt_iff_lt, ge_iff_le] at h4
          (conv => arg 4; whnf); repeat (refine ⟨rfl, ?_⟩; conv => arg 4; whnf)
          refine ⟨⟨Bat.none, 0, 2⟩, .inr ⟨rfl, rfl, rfl, fun b hb => ?_⟩, by decide, by (repeat' (first | with_reducible exact Le.refl _ _ | exact Le.bl | exact Le.lb | exact Le.nils | exact Le.nilsFull | exact Le.none | exact LeL.nil _ | refine LeL.cons ?_ ?_ | refine Le.tup ?_ | refine Le.agg ?_ | exact Le.refl _ _ | exact LeL.refl _ _)), trivial, (by (repeat' (first | with_reducible assumption | exact ClL.nil | exact Cl.int _ _ | exact Cl.bool _ | exact Cl.bl _ | exact Cl.bs _ | exact Cl.str _ | exact Cl.nils | exact Cl.nilp | exact Cl.rec _ | exact Cl.bat _ | exact Cl.recsV _ | exact Cl.strsV _ | exact Cl.intsV _ | exact Cl.req _ | exact Cl.rsp _ | exact Cl.reqA _ | exact Cl.rspA _ | exact Cl.batsV _ | exact Cl.getB _ | exact Cl.encA _ | exact Cl.firstA _ | refine ClL.cons ?_ ?_ | refine Cl.tup ?_ | refine Cl.agg ?_ | exact ClO.RO _ _)) : Cl _) _, trivial⟩
          have hn := (chk_fine hb.1).1.few
          obtain ⟨⟨-, -, -, -, -, -, f6⟩, -⟩ := gF b hb
          omega
        · rw [← Bool.not_eq_true] at h4; simp only [Bool.cond_true_left, Bool.cond_false_right, Bool.or_eq_true, Bool.and_eq_true, Bool.not_eq_true', decide_eq_true_eq, beq_iff_eq, bne_iff_ne, u8s_length, gt_iff_lt, ge_iff_le] at h4
          (conv => arg 4; whnf); repeat (refine ⟨rfl, ?_⟩; conv => arg 4; whnf)
          refine tri_loopG (ι := RfI P p y6) (fun a => ⟨[(11, .int .i64 a.i), (10, .int .i64 y6), (9, bs a.r), (8, .ptr 1 0), (7, .int .i64 y2), (5, .int .i64 y0), (3, .int .i64 0), (2, .ptr 0 0), (0, bs P)], [(2, .tip a.s), (1, .cells [.int .i64 y0, .int .i64 (IntKind.i64.wrap (y0 + y1)), .int .i64 y3, .int .i64 y4, .int .i64 y5, .sl (.tok 2 a.s) 6 (recsL a.l)]), (0, .cells [.int .i64 0, .int .i64 0, .int .i64 0, .int .i64 0, .int .i64 0, .nils])], 3, 151⟩) (fun a => (y6 - a.i).toNat) ⟨0, 0, P.drop 50, [], by omega, rfl, by simp, fun b hb => ⟨rfl, (gF b hb).2⟩⟩ (WkG.tok rfl rfl ⟨Le.refl _ _, Le.refl _ _, Le.of_eq (congrArg (AV.sl .none 0) (u8s_drop _ _)), Le.refl _ _, Le.refl _ _, Le.refl _ _, Le.refl _ _, Le.refl _ _, Le.refl _ _, trivial⟩ ⟨⟨_, rfl, rfl⟩, ⟨_, rfl, LeL.cons (Le.refl _ _) (LeL.cons (Le.refl _ _) (LeL.cons (Le.refl _ _) (LeL.cons (Le.refl _ _) (LeL.cons (Le.refl _ _) (LeL.cons (Le.nilsTok rfl) (LeL.nil _))))))⟩, ⟨_, rfl, LeO.refl _ _⟩, trivial⟩ ⟨rfl, rfl, (by (repeat' (first | with_reducible assumption | exact ClL.nil | exact Cl.int _ _ | exact Cl.bool _ | exact Cl.bl _ | exact Cl.bs _ | exact Cl.str _ | exact Cl.nils | exact Cl.nilp | exact Cl.rec _ | exact Cl.bat _ | exact Cl.recsV _ | exact Cl.strsV _ | exact Cl.intsV _ | exact Cl.req _ | exact Cl.rsp _ | exact Cl.reqA _ | exact Cl.rspA _ | exact Cl.batsV _ | exact Cl.getB _ | exact Cl.encA _ | exact Cl.firstA _ | refine ClL.cons ?_ ?_ | refine Cl.tup ?_ | refine Cl.agg ?_ | exact ClO.RO _ _)) : Cl _) _, rfl, rfl, rfl, rfl, rfl, (by (repeat' (first | with_reducible assumption | exact ClL.nil | exact Cl.int _ _ | exact Cl.bool _ | exact Cl.bl _ | exact Cl.bs _ | exact Cl.str _ | exact Cl.nils | exact Cl.nilp | exact Cl.rec _ | exact Cl.bat _ | exact Cl.recsV _ | exact Cl.strsV _ | exact Cl.intsV _ | exact Cl.req _ | exact Cl.rsp _ | exact Cl.reqA _ | exact Cl.rspA _ | exact Cl.batsV _ | exact Cl.getB _ | exact Cl.encA _ | exact Cl.firstA _ | refine ClL.cons ?_ ?_ | refine Cl.tup ?_ | refine Cl.agg ?_ | exact ClO.RO _ _)) : Cl _) _, trivial⟩ ⟨⟨by decide, rfl⟩, ⟨by decide, rfl⟩, ⟨by decide, rfl⟩, trivial⟩) ?_
          rintro ⟨i, s, r, l, hi, hll, hrl, hg⟩
          dsimp only
          conv => arg 4; whnf
          refine ⟨fun h => ?_, fun h => ?_⟩
          · have h : (i : Int) < y6 := by simpa using h
            (conv => arg 4; whnf); repeat (refine ⟨rfl, ?_⟩; conv => arg 4; whnf)
            refine holds_args (args' := [bs r, .int .i64 r.length]) ⟨Le.refl _ _, Le.of_eq (congrArg (AV.int .i64) (by rw [u8s_length] : ((u8s r).length : Int) = r.length)), trivial⟩ ?_
            refine call0E (refGetBytesE (b := r) (by omega)) (by (repeat' (first | with_reducible assumption | exact ClL.nil | exact Cl.int _ _ | exact Cl.bool _ | exact Cl.bl _ | exact Cl.bs _ | exact Cl.str _ | exact Cl.nils | exact Cl.nilp | exact Cl.rec _ | exact Cl.bat _ | exact Cl.recsV _ | exact Cl.strsV _ | exact Cl.intsV _ | exact Cl.req _ | exact Cl.rsp _ | exact Cl.reqA _ | exact Cl.rspA _ | exact Cl.batsV _ | exact Cl.getB _ | exact Cl.encA _ | exact Cl.firstA _ | refine ClL.cons ?_ ?_ | refine Cl.tup ?_ | refine Cl.agg ?_ | exact ClO.RO _ _))) (fun x => by (repeat' (first | with_reducible assumption | exact ClL.nil | exact Cl.int _ _ | exact Cl.bool _ | exact Cl.bl _ | exact Cl.bs _ | exact Cl.str _ | exact Cl.nils | exact Cl.nilp | exact Cl.rec _ | exact Cl.bat _ | exact Cl.recsV _ | exact Cl.strsV _ | exact Cl.intsV _ | exact Cl.req _ | exact Cl.rsp _ | exact Cl.reqA _ | exact Cl.rspA _ | exact Cl.batsV _ | exact Cl.getB _ | exact Cl.encA _ | exact Cl.firstA _ | refine ClL.cons ?_ ?_ | refine Cl.tup ?_ | refine Cl.agg ?_ | exact ClO.RO _ _))) fun x hx => ?_
            (conv => arg 4; whnf); repeat (refine ⟨rfl, ?_⟩; conv => arg 4; whnf)
            have gx : ∀ b : Bat, b.begins p → ∃ z, b.recs[i]? = some z ∧ x.v = z.body b.first b.base ∧ x.r = recsB (b.recs.drop (i + 1)) b.first b.base ∧ x.e = 0 ∧ z.wf b.first b.base := fun b hb => by
              obtain ⟨g1, g2⟩ := hg b hb
              have hn : y6 = b.recs.length := (gF b hb).1.2.2.2.2.2.2
              obtain ⟨z, hz⟩ : ∃ z, b.recs[i]? = some z := ⟨_, List.getElem?_eq_getElem (by omega)⟩
              have hm := List.mem_of_getElem? hz
              have hfin := (chk_fine hb.1).1
              have hf := hfin.recs z hm
              have hbl := body_len hfin hf
              have hw := good_wr (p := b.enc) ⟨hb.1, rfl⟩ hm
              have ht := first_time hfin
              have hh := hfin.head
              unfold HeadBad at hh
              unfold Rec.fine at hf
              have hrl : r.length = (lenB (z.body b.first b.base)).length + (recsB (b.recs.drop (i + 1)) b.first b.base).length := by rw [g2, recsB_drop hz, List.length_append]
              have hll : (lenB (z.body b.first b.base)).length = (put ((z.body b.first b.base).length : Int)).length + (z.body b.first b.base).length := by rw [lenB, List.length_append]
              obtain ⟨q1, q2, q3⟩ := hx.2.2 _ _ (by rw [g2, recsB_drop hz]) (by omega) (by omega)
              exact ⟨z, hz, q1, q2, q3, hw, by omega, by omega, by omega, by omega⟩
            refine ⟨fun he => ?_, fun he => ?_⟩
            · have he : x.e ≠ 0 := by simpa using he
              (conv => arg 4; whnf); repeat (refine ⟨rfl, ?_⟩; conv => arg 4; whnf)
              refine ⟨⟨Bat.none, 0, 2⟩, .inr ⟨rfl, rfl, rfl, fun b hb => ?_⟩, by decide, by (repeat' (first | with_reducible exact Le.refl _ _ | exact Le.bl | exact Le.lb | exact Le.nils | exact Le.nilsFull | exact Le.none | exact LeL.nil _ | refine LeL.cons ?_ ?_ | refine Le.tup ?_ | refine Le.agg ?_ | exact Le.refl _ _ | exact LeL.refl _ _)), trivial, (by (repeat' (first | with_reducible assumption | exact ClL.nil | exact Cl.int _ _ | exact Cl.bool _ | exact Cl.bl _ | exact Cl.bs _ | exact Cl.str _ | exact Cl.nils | exact Cl.nilp | exact Cl.rec _ | exact Cl.bat _ | exact Cl.recsV _ | exact Cl.strsV _ | exact Cl.intsV _ | exact Cl.req _ | exact Cl.rsp _ | exact Cl.reqA _ | exact Cl.rspA _ | exact Cl.batsV _ | exact Cl.getB _ | exact Cl.encA _ | exact Cl.firstA _ | refine ClL.cons ?_ ?_ | refine Cl.tup ?_ | refine Cl.agg ?_ | exact ClO.RO _ _)) : Cl _) _, trivial⟩
              obtain ⟨z, -, -, -, h4, -⟩ := gx b hb
              exact he h4
            · (conv => arg 4; whnf); repeat (refine ⟨rfl, ?_⟩; conv => arg 4; whnf)
              refine call0E (refReadRec (p := x.v) (by omega)) (by (repeat' (first | with_reducible assumption | exact ClL.nil | exact Cl.int _ _ | exact Cl.bool _ | exact Cl.bl _ | exact Cl.bs _ | exact Cl.str _ | exact Cl.nils | exact Cl.nilp | exact Cl.rec _ | exact Cl.bat _ | exact Cl.recsV _ | exact Cl.strsV _ | exact Cl.intsV _ | exact Cl.req _ | exact Cl.rsp _ | exact Cl.reqA _ | exact Cl.rspA _ | exact Cl.batsV _ | exact Cl.getB _ | exact Cl.encA _ | exact Cl.firstA _ | refine ClL.cons ?_ ?_ | refine Cl.tup ?_ | refine Cl.agg ?_ | exact ClO.RO _ _))) (fun x => by (repeat' (first | with_reducible assumption | exact ClL.nil | exact Cl.int _ _ | exact Cl.bool _ | exact Cl.bl _ | exact Cl.bs _ | exact Cl.str _ | exact Cl.nils | exact Cl.nilp | exact Cl.rec _ | exact Cl.bat _ | exact Cl.recsV _ | exact Cl.strsV _ | exact Cl.intsV _ | exact Cl.req _ | exact Cl.rsp _ | exact Cl.reqA _ | exact Cl.rspA _ | exact Cl.batsV _ | exact Cl.getB _ | exact Cl.encA _ | exact Cl.firstA _ | refine ClL.cons ?_ ?_ | refine Cl.tup ?_ | refine Cl.agg ?_ | exact ClO.RO _ _))) fun z hz => ?_
              (conv => arg 4; whnf); repeat (refine ⟨rfl, ?_⟩; conv => arg 4; whnf)
              have gz : ∀ b : Bat, b.begins p → z.ok = true ∧ b.recs[i]? = some z.x ∧ x.r = recsB (b.recs.drop (i + 1)) b.first b.base := fun b hb => by
                obtain ⟨w, q1, q2, q3, -, q5⟩ := gx b hb
                obtain ⟨⟨f0, -, f2, -⟩, -⟩ := gF b hb
                rw [f0, f2] at hz
                obtain ⟨z1, z2⟩ := hz w q5 q2
                exact ⟨z1, by rw [z2]; exact q1, q3⟩
              refine ⟨fun hk => ?_, fun hk => ?_⟩
              · have hk : z.ok = false := by simpa using hk
                (conv => arg 4; whnf); repeat (refine ⟨rfl, ?_⟩; conv => arg 4; whnf)
                refine ⟨⟨Bat.none, 0, 2⟩, .inr ⟨rfl, rfl, rfl, fun b hb => ?_⟩, by decide, by (repeat' (first | with_reducible exact Le.refl _ _ | exact Le.bl | exact Le.lb | exact Le.nils | exact Le.nilsFull | exact Le.none | exact LeL.nil _ | refine LeL.cons ?_ ?_ | refine Le.tup ?_ | refine Le.agg ?_ | exact Le.refl _ _ | exact LeL.refl _ _)), trivial, (by (repeat' (first | with_reducible assumption | exact ClL.nil | exact Cl.int _ _ | exact Cl.bool _ | exact Cl.bl _ | exact Cl.bs _ | exact Cl.str _ | exact Cl.nils | exact Cl.nilp | exact Cl.rec _ | exact Cl.bat _ | exact Cl.recsV _ | exact Cl.strsV _ | exact Cl.intsV _ | exact Cl.req _ | exact Cl.rsp _ | exact Cl.reqA _ | exact Cl.rspA _ | exact Cl.batsV _ | exact Cl.getB _ | exact Cl.encA _ | exact Cl.firstA _ | refine ClL.cons ?_ ?_ | refine Cl.tup ?_ | refine Cl.agg ?_ | exact ClO.RO _ _)) : Cl _) _, trivial⟩
                have := (gz b hb).1
                rw [hk] at this; cases this
              · (conv => arg 4; whnf); repeat (refine ⟨rfl, ?_⟩; conv => arg 4; whnf)
                refine ⟨⟨rfl, sizeOk 80 rfl ?_⟩, ?_⟩
                · rw [List.length_append, recs_length, hll]; simp only [List.length_cons, List.length_nil]; omega
                (conv => arg 4; whnf); repeat (refine ⟨rfl, ?_⟩; conv => arg 4; whnf)
                refine ⟨⟨i + 1, s + 1, x.r, l ++ [z.x], by omega, by rw [List.length_append, hll]; rfl, by omega, fun b hb => ?_⟩, by show (y6 - ((i + 1 : Nat) : Int)).toNat < (y6 - (i : Int)).toNat; omega, WkG.of rfl rfl ⟨Le.of_eq (succ_int (by omega)), Le.refl _ _, Le.refl _ _, Le.refl _ _, Le.refl _ _, Le.refl _ _, Le.refl _ _, Le.refl _ _, Le.refl _ _, trivial⟩ ⟨⟨_, rfl, LeO.refl _ _⟩, ⟨_, rfl, ?_⟩, ⟨_, rfl, LeO.refl _ _⟩, trivial⟩ ⟨rfl, rfl, (by (repeat' (first | with_reducible assumption | exact ClL.nil | exact Cl.int _ _ | exact Cl.bool _ | exact Cl.bl _ | exact Cl.bs _ | exact Cl.str _ | exact Cl.nils | exact Cl.nilp | exact Cl.rec _ | exact Cl.bat _ | exact Cl.recsV _ | exact Cl.strsV _ | exact Cl.intsV _ | exact Cl.req _ | exact Cl.rsp _ | exact Cl.reqA _ | exact Cl.rspA _ | exact Cl.batsV _ | exact Cl.getB _ | exact Cl.encA _ | exact Cl.firstA _ | refine ClL.cons ?_ ?_ | refine Cl.tup ?_ | refine Cl.agg ?_ | exact ClO.RO _ _)) : Cl _) _, rfl, rfl, rfl, rfl, rfl, (by (repeat' (first | with_reducible assumption | exact ClL.nil | exact Cl.int _ _ | exact Cl.bool _ | exact Cl.bl _ | exact Cl.bs _ | exact Cl.str _ | exact Cl.nils | exact Cl.nilp | exact Cl.rec _ | exact Cl.bat _ | exact Cl.recsV _ | exact Cl.strsV _ | exact Cl.intsV _ | exact Cl.req _ | exact Cl.rsp _ | exact Cl.reqA _ | exact Cl.rspA _ | exact Cl.batsV _ | exact Cl.getB _ | exact Cl.encA _ | exact Cl.firstA _ | refine ClL.cons ?_ ?_ | refine Cl.tup ?_ | refine Cl.agg ?_ | exact ClO.RO _ _)) : Cl _) _, trivial⟩ ⟨⟨by decide, rfl⟩, ⟨by decide, ?_⟩, ⟨by decide, rfl⟩, trivial⟩⟩
                · obtain ⟨q1, q2, q3⟩ := gz b hb
                  obtain ⟨g1, g2⟩ := hg b hb
                  exact ⟨by rw [g1, List.take_add_one, q2]; rfl, q3⟩
                · have e : recsL (l ++ [z.x]) = recsL l ++ [z.x.av] := by simp [recsL]
                  rw [e]
                  exact LeL.refl _ _
                · simp only [renO, renL, ren, ren_recs, renP, cut_lt (show 2 < 3 by decide)]
          · have h : ¬ (i : Int) < y6 := by simpa using h
            conv => arg 4; whnf
            refine fin_exit ?_
            show holds _ _ _ _
            conv => arg 4; whnf
            obtain ⟨b, hb⟩ : ∃ b : Bat, b = ⟨y0, IntKind.i64.wrap (y0 + y1), y3, y4, y5, l⟩ := ⟨_, rfl⟩
            have hbl : b.recs.length ≤ 1000000 := by rw [hb]; simp only; omega
            have hav : ∀ h, Le h (.agg [.int .i64 y0, .int .i64 (IntKind.i64.wrap (y0 + y1)), .int .i64 y3, .int .i64 y4, .int .i64 y5, .sl (.tok 2 s) 6 (recsL l)]) b.av := fun h => by rw [hb]; show Le _ _ (.agg _); (repeat' (first | with_reducible exact Le.refl _ _ | exact Le.bl | exact Le.lb | exact Le.nils | exact Le.nilsFull | exact Le.none | exact LeL.nil _ | refine LeL.cons ?_ ?_ | refine Le.tup ?_ | refine Le.agg ?_ | exact Le.refl _ _ | exact LeL.refl _ _))
            refine holds_args (args' := [b.av]) ⟨hav _, trivial⟩ ?_
            refine call0 (refEnc hbl) (by (repeat' (first | with_reducible assumption | exact ClL.nil | exact Cl.int _ _ | exact Cl.bool _ | exact Cl.bl _ | exact Cl.bs _ | exact Cl.str _ | exact Cl.nils | exact Cl.nilp | exact Cl.rec _ | exact Cl.bat _ | exact Cl.recsV _ | exact Cl.strsV _ | exact Cl.intsV _ | exact Cl.req _ | exact Cl.rsp _ | exact Cl.reqA _ | exact Cl.rspA _ | exact Cl.batsV _ | exact Cl.getB _ | exact Cl.encA _ | exact Cl.firstA _ | refine ClL.cons ?_ ?_ | refine Cl.tup ?_ | refine Cl.agg ?_ | exact ClO.RO _ _))) (Cl.encA b) ?_
            (conv => arg 4; whnf); repeat (refine ⟨rfl, ?_⟩; conv => arg 4; whnf)
            have hgood : ∀ b' : Bat, b'.begins p → b = b' := fun b' hg' => by
              obtain ⟨⟨e1, e2, e3, e4, e5, e6, e7⟩, -⟩ := gF b' hg'
              obtain ⟨g1, -⟩ := hg b' hg'
              have hi' : i = b'.recs.length := by omega
              have hh := (chk_fine hg'.1).1.head
              unfold HeadBad at hh
              have ew : IntKind.i64.wrap (y0 + y1) = b'.last := by rw [IntKind.wrap_i64, e1, e2]; omega
              rw [hb, ew, e1, e4, e5, e6, g1, hi', List.take_length]
            refine ⟨b.out, ctxP_of rfl, ?_⟩
            conv => arg 4; whnf
            refine ⟨P, ctxP_of rfl, ?_⟩
            conv => arg 4; whnf
            refine ⟨fun hk => ?_, fun hk => ?_⟩
            · simp only [Bool.cond_true_left, Bool.cond_false_right, Bool.or_eq_true, Bool.and_eq_true, Bool.not_eq_true', decide_eq_true_eq, beq_iff_eq, bne_iff_ne, u8s_length, Bool.not_eq_true, gt_iff_lt, ge_iff_le] at hk
              (conv => arg 4; whnf); repeat (refine ⟨rfl, ?_⟩; conv => arg 4; whnf)
              refine ⟨⟨Bat.none, 0, 2⟩, .inr ⟨rfl, rfl, rfl, fun b' hb' => ?_⟩, by decide, by (repeat' (first | with_reducible exact Le.refl _ _ | exact Le.bl | exact Le.lb | exact Le.nils | exact Le.nilsFull | exact Le.none | exact LeL.nil _ | refine LeL.cons ?_ ?_ | refine Le.tup ?_ | refine Le.agg ?_ | exact Le.refl _ _ | exact LeL.refl _ _)), trivial, (by (repeat' (first | with_reducible assumption | exact ClL.nil | exact Cl.int _ _ | exact Cl.bool _ | exact Cl.bl _ | exact Cl.bs _ | exact Cl.str _ | exact Cl.nils | exact Cl.nilp | exact Cl.rec _ | exact Cl.bat _ | exact Cl.recsV _ | exact Cl.strsV _ | exact Cl.intsV _ | exact Cl.req _ | exact Cl.rsp _ | exact Cl.reqA _ | exact Cl.rspA _ | exact Cl.batsV _ | exact Cl.getB _ | exact Cl.encA _ | exact Cl.firstA _ | refine ClL.cons ?_ ?_ | refine Cl.tup ?_ | refine Cl.agg ?_ | exact ClO.RO _ _)) : Cl _) _, trivial⟩
              have e := hgood b' hb'
              have e2 := gP b' hb'
              subst e
              rcases hk with hk | hk
              · exact hk hb'.1
              · rw [out_yes hb'.1, ← e2] at hk
                simp at hk
            · rw [← Bool.not_eq_true] at hk; simp only [Bool.cond_true_left, Bool.cond_false_right, Bool.or_eq_true, Bool.and_eq_true, Bool.not_eq_true', decide_eq_true_eq, beq_iff_eq, bne_iff_ne, u8s_length, gt_iff_lt, ge_iff_le] at hk
              have hk1 : b.chk = 0 := by omega
              have hk2 : b.out = P := by
                by_cases h' : b.out = P
                · exact h'
                · exact absurd (.inr (by simpa using h')) hk
              rw [out_yes hk1] at hk2
              (conv => arg 4; whnf); repeat (refine ⟨rfl, ?_⟩; conv => arg 4; whnf)
              refine ⟨⟨b, P.length, 0⟩, .inl ⟨rfl, ⟨hk1, by rw [hk2, hP]; exact List.take_prefix _ _⟩, by rw [hk2], hgood⟩, by decide, Le.tup (LeL.cons (hav _) (LeL.cons (Le.of_eq (congrArg (AV.int .i64) (by rw [u8s_length] : ((u8s P).length : Int) = P.length))) (LeL.nil _))), trivial, (by (repeat' (first | with_reducible assumption | exact ClL.nil | exact Cl.int _ _ | exact Cl.bool _ | exact Cl.bl _ | exact Cl.bs _ | exact Cl.str _ | exact Cl.nils | exact Cl.nilp | exact Cl.rec _ | exact Cl.bat _ | exact Cl.recsV _ | exact Cl.strsV _ | exact Cl.intsV _ | exact Cl.req _ | exact Cl.rsp _ | exact Cl.reqA _ | exact Cl.rspA _ | exact Cl.batsV _ | exact Cl.getB _ | exact Cl.encA _ | exact Cl.firstA _ | refine ClL.cons ?_ ?_ | refine Cl.tup ?_ | refine Cl.agg ?_ | exact ClO.RO _ _)) : Cl _) _, trivial⟩

theorem refFirst' {p : List UInt8} (hl : p.length ≤ 1000000000) : CallOK Try.prog 41 [bs p] [] 0 (Out (.tup [(firstB p).av, .int .i64 (firstN p)]) [] 0) :=
  (refFirst hl).mono fun a h m ⟨x, hx, e1, e2, e3⟩ => by
    obtain ⟨q1, q2, -⟩ := first_spec hx
    rw [q1, q2] at e1
    exact ⟨e1, e2, e3⟩

theorem firstN_zero {p : List UInt8} : firstN p = 0 ↔ firstE p ≠ 0 := by
  constructor
  · intro h h0
    obtain ⟨h1, h2⟩ := first_yes h0
    have h3 : (firstB p).enc.length = 16 + (firstB p).rest.length := batE_len
    omega
  · intro h
    exact (first_no h).2.2.1

theorem refDecode {p : List UInt8} (hl : p.length ≤ 1000000000) : CallOK Try.prog 39 [bs p] [] 0 (Out (.tup [(decB p).av, .int .i64 (decE p)]) [] 0) := by
  refine CallOK.fit (by decide) ?_
  refine callOK Try.call39 Try.func39 Try.ntmps39 rfl ?_
  conv => arg 4; whnf
  refine call0 (refFirst' hl) (by (repeat' (first | with_reducible assumption | exact ClL.nil | exact Cl.int _ _ | exact Cl.bool _ | exact Cl.bl _ | exact Cl.bs _ | exact Cl.str _ | exact Cl.nils | exact Cl.nilp | exact Cl.rec _ | exact Cl.bat _ | exact Cl.recsV _ | exact Cl.strsV _ | exact Cl.intsV _ | exact Cl.req _ | exact Cl.rsp _ | exact Cl.reqA _ | exact Cl.rspA _ | exact Cl.batsV _ | exact Cl.getB _ | exact Cl.encA _ | exact Cl.firstA _ | refine ClL.cons ?_ ?_ | refine Cl.tup ?_ | refine Cl.agg ?_ | exact ClO.RO _ _))) (by (repeat' (first | with_reducible assumption | exact ClL.nil | exact Cl.int _ _ | exact Cl.bool _ | exact Cl.bl _ | exact Cl.bs _ | exact Cl.str _ | exact Cl.nils | exact Cl.nilp | exact Cl.rec _ | exact Cl.bat _ | exact Cl.recsV _ | exact Cl.strsV _ | exact Cl.intsV _ | exact Cl.req _ | exact Cl.rsp _ | exact Cl.reqA _ | exact Cl.rspA _ | exact Cl.batsV _ | exact Cl.getB _ | exact Cl.encA _ | exact Cl.firstA _ | refine ClL.cons ?_ ?_ | refine Cl.tup ?_ | refine Cl.agg ?_ | exact ClO.RO _ _))) ?_
  (conv => arg 4; whnf); repeat (refine ⟨rfl, ?_⟩; conv => arg 4; whnf)
  have hz := firstN_zero (p := p)
  refine ⟨fun h => ?_, fun h => ?_⟩
  · simp only [Bool.cond_true_left, Bool.cond_false_right, Bool.or_eq_true, Bool.and_eq_true, Bool.not_eq_true', decide_eq_true_eq, beq_iff_eq, bne_iff_ne, u8s_length, Bool.not_eq_true, gt_iff_lt, ge_iff_le] at h
    (conv => arg 4; whnf); repeat (refine ⟨rfl, ?_⟩; conv => arg 4; whnf)
    have hn : ¬ (firstE p = 0 ∧ firstN p = p.length) := by omega
    have hb : decB p = Bat.none := by
      unfold decB
      by_cases h0 : firstE p = 0
      · rw [if_neg (by omega)]
      · rw [(first_no h0).2.1]; simp
    have he : decE p = 2 := by unfold decE; rw [if_neg hn]
    refine ⟨by decide, ?_, trivial, (by (repeat' (first | with_reducible assumption | exact ClL.nil | exact Cl.int _ _ | exact Cl.bool _ | exact Cl.bl _ | exact Cl.bs _ | exact Cl.str _ | exact Cl.nils | exact Cl.nilp | exact Cl.rec _ | exact Cl.bat _ | exact Cl.recsV _ | exact Cl.strsV _ | exact Cl.intsV _ | exact Cl.req _ | exact Cl.rsp _ | exact Cl.reqA _ | exact Cl.rspA _ | exact Cl.batsV _ | exact Cl.getB _ | exact Cl.encA _ | exact Cl.firstA _ | refine ClL.cons ?_ ?_ | refine Cl.tup ?_ | refine Cl.agg ?_ | exact ClO.RO _ _)) : Cl _) _, trivial⟩
    rw [hb, he]; (repeat' (first | with_reducible exact Le.refl _ _ | exact Le.bl | exact Le.lb | exact Le.nils | exact Le.nilsFull | exact Le.none | exact LeL.nil _ | refine LeL.cons ?_ ?_ | refine Le.tup ?_ | refine Le.agg ?_ | exact Le.refl _ _ | exact LeL.refl _ _))
  · rw [← Bool.not_eq_true] at h; simp only [Bool.cond_true_left, Bool.cond_false_right, Bool.or_eq_true, Bool.and_eq_true, Bool.not_eq_true', decide_eq_true_eq, beq_iff_eq, bne_iff_ne, u8s_length, gt_iff_lt, ge_iff_le] at h
    (conv => arg 4; whnf); repeat (refine ⟨rfl, ?_⟩; conv => arg 4; whnf)
    have hy : firstE p = 0 ∧ firstN p = p.length := by omega
    have hb : decB p = firstB p := by unfold decB; rw [if_pos hy.2]
    have he : decE p = 0 := by unfold decE; rw [if_pos hy]
    refine ⟨by decide, ?_, trivial, (by (repeat' (first | with_reducible assumption | exact ClL.nil | exact Cl.int _ _ | exact Cl.bool _ | exact Cl.bl _ | exact Cl.bs _ | exact Cl.str _ | exact Cl.nils | exact Cl.nilp | exact Cl.rec _ | exact Cl.bat _ | exact Cl.recsV _ | exact Cl.strsV _ | exact Cl.intsV _ | exact Cl.req _ | exact Cl.rsp _ | exact Cl.reqA _ | exact Cl.rspA _ | exact Cl.batsV _ | exact Cl.getB _ | exact Cl.encA _ | exact Cl.firstA _ | refine ClL.cons ?_ ?_ | refine Cl.tup ?_ | refine Cl.agg ?_ | exact ClO.RO _ _)) : Cl _) _, trivial⟩
    rw [hb, he]; (repeat' (first | with_reducible exact Le.refl _ _ | exact Le.bl | exact Le.lb | exact Le.nils | exact Le.nilsFull | exact Le.none | exact LeL.nil _ | refine LeL.cons ?_ ?_ | refine Le.tup ?_ | refine Le.agg ?_ | exact Le.refl _ _ | exact LeL.refl _ _))
end Go.Proofs.Ythclmkhkchbpiaa

namespace Go.Proofs.Ythclmkhkchbpiaa
set_option maxRecDepth 100000
set_option maxHeartbeats 80000000
open Go.Sym

theorem isum_range : ∀ {xs : List Int} {n : Int}, 0 ≤ n ∧ n ≤ 1099511627776 → (∀ x ∈ xs, 0 ≤ x) → 0 ≤ isum n xs ∧ isum n xs ≤ 1099511627776
  | [], n, hn, _ => hn
  | x :: r, n, hn, hx => by
    have h0 := hx x List.mem_cons_self
    unfold isum
    split
    · omega
    · exact isum_range (by omega) fun y hy => hx y (List.mem_cons_of_mem _ hy)
theorem isum_eq : ∀ {xs : List Int} {n : Int}, 0 ≤ n ∧ n ≤ 1099511627776 → (∀ x ∈ xs, 0 ≤ x) → isum n xs < 1099511627776 → isum n xs = n + xs.sum
  | [], n, hn, _, _ => by simp [isum]
  | x :: r, n, hn, hx, hl => by
    have h0 := hx x List.mem_cons_self
    unfold isum at hl ⊢
    split at hl
    · omega
    · rename_i hc
      rw [if_neg hc, isum_eq (by omega) (fun y hy => hx y (List.mem_cons_of_mem _ hy)) hl, List.sum_cons]
      omega

def Rec.wt (r : Rec) : Nat := 1 + r.key.length + r.val.length
def wtR (l : List Rec) : Nat := (l.map Rec.wt).sum

theorem wtR_take {l : List Rec} {i : Nat} {x : Rec} (h : l[i]? = some x) : wtR (l.take (i + 1)) = wtR (l.take i) + x.wt := by
  simp [wtR, List.take_add_one, h]
theorem wtR_mem {l : List Rec} {x : Rec} (h : x ∈ l) : x.wt ≤ wtR l := by
  induction l with
  | nil => cases h
  | cons y l ih =>
    simp only [wtR, List.map_cons, List.sum_cons]
    rcases List.mem_cons.1 h with rfl | h
    · omega
    · have := ih h; unfold wtR at this; omega
theorem wtR_length (l : List Rec) : l.length ≤ wtR l := by
  induction l with
  | nil => simp
  | cons y l ih =>
    simp only [wtR, List.map_cons, List.sum_cons, List.length_cons]
    unfold wtR at ih; unfold Rec.wt at *; omega

theorem succ_i64 {i : Nat} (h : i < 1000000000000000000) : AV.int .i64 (IntKind.i64.wrap ((i : Int) + 1)) = AV.int .i64 ((i + 1 : Nat) : Int) := by
  have : IntKind.i64.wrap ((i : Int) + 1) = ((i + 1 : Nat) : Int) := by rw [IntKind.wrap_i64]; omega
  rw [this]

structure WbI (b : Bat) where
  i : Nat
  n : Int
  hi : i ≤ b.recs.length
  hn : 0 ≤ n ∧ n ≤ 1099511627776
  h : n < 1099511627776 → n = 1 + wtR (b.recs.take i)

/-- Is the weight's answer right? -/
def Weighs (n : Int) (w : Nat) : Prop := 0 ≤ n ∧ n ≤ 1099511627776 ∧ (n < 1099511627776 → n = w)

theorem alikeBatch {b : Bat} (hl : b.recs.length ≤ 1000000000000000) : CallOK Try.prog 45 [b.av] [] 0 (fun a h m => ∃ n : Int, Weighs n (1 + wtR b.recs) ∧ Out (.int .i64 n) [] 0 a h m) := by
  refine CallOK.fitE (by decide) ?_
  refine callOK Try.call45 Try.func45 Try.ntmps45 rfl ?_
  conv => arg 4; whnf
  refine tri_loopG (ι := WbI b) (fun a => ⟨[(4, .int .i64 a.i), (3, .int .i64 a.n), (1, .ptr 0 0)], [(0, batO b)], 1, 34⟩) (fun a => b.recs.length - a.i) ⟨0, 1, Nat.zero_le _, by omega, fun _ => rfl⟩ (WkG.of rfl rfl ⟨Le.refl _ _, Le.refl _ _, Le.refl _ _, trivial⟩ ⟨⟨_, rfl, LeO.refl _ _⟩, trivial⟩ ⟨rfl, rfl, rfl, trivial⟩ ⟨⟨by decide, renO_batO _ _⟩, trivial⟩) ?_
  rintro ⟨i, n, hi, hn, hh⟩
  dsimp only
  conv => arg 4; whnf
  refine ⟨fun h => ?_, fun h => ?_⟩
  · have h : i < b.recs.length ∧ n ≤ 1099511627776 := by
      rw [recs_length] at h
      simp only [Bool.cond_true_left, Bool.cond_false_right, Bool.or_eq_true, Bool.and_eq_true, Bool.not_eq_true', decide_eq_true_eq, beq_iff_eq, bne_iff_ne, u8s_length, Bool.not_eq_true, gt_iff_lt, ge_iff_le] at h
      omega
    obtain ⟨x, hx⟩ : ∃ x, b.recs[i]? = some x := ⟨_, List.getElem?_eq_getElem h.1⟩
    have hg := recs_get hx
    (conv => arg 4; whnf); repeat (refine ⟨rfl, ?_⟩; conv => arg 4; whnf)
    refine ⟨x.av, ⟨by omega, hg⟩, ?_⟩
    (conv => arg 4; whnf); repeat (refine ⟨rfl, ?_⟩; conv => arg 4; whnf)
    refine ⟨x.av, ⟨by omega, hg⟩, ?_⟩
    (conv => arg 4; whnf); repeat (refine ⟨rfl, ?_⟩; conv => arg 4; whnf)
    obtain ⟨xs, hxs⟩ : ∃ xs : List Int, xs = [1, (x.key.length : Int), (x.val.length : Int)] := ⟨_, rfl⟩
    have hx0 : ∀ y ∈ xs, 0 ≤ y := by rw [hxs]; intro y hy; simp at hy; omega
    refine holds_args (args' := [.int .i64 n, .sl .none 0 (ints xs)]) ⟨Le.refl _ _, Le.noneOf (by rw [hxs, u8s_length, u8s_length]; rfl), trivial⟩ ?_
    refine call0 (sum hn hx0 (by rw [hxs]; simp)) (ClL.cons (Cl.int _ _) (ClL.cons (Cl.sl (fun ρ => ren_ints ρ _)) ClL.nil)) (Cl.int _ _) ?_
    (conv => arg 4; whnf); repeat (refine ⟨rfl, ?_⟩; conv => arg 4; whnf)
    have hr := isum_range hn hx0
    refine ⟨⟨i + 1, isum n xs, by omega, hr, fun hlt => ?_⟩, by show b.recs.length - (i + 1) < b.recs.length - i; omega, WkG.of rfl rfl ⟨Le.of_eq (succ_i64 (by omega)), Le.refl _ _, Le.refl _ _, trivial⟩ ⟨⟨_, rfl, LeO.refl _ _⟩, trivial⟩ ⟨rfl, rfl, rfl, trivial⟩ ⟨⟨by decide, renO_batO _ _⟩, trivial⟩⟩
    have he := isum_eq hn hx0 hlt
    have hs : xs.sum = 1 + ((x.key.length : Int) + x.val.length) := by rw [hxs]; simp
    have := hh (by omega)
    rw [he, hs, wtR_take hx, Rec.wt]
    omega
  · conv => arg 4; whnf
    refine fin_exit ?_
    show holds _ _ _ _
    conv => arg 4; whnf
    refine ⟨n, ⟨hn.1, hn.2, fun hlt => ?_⟩, by decide, by (repeat' (first | with_reducible exact Le.refl _ _ | exact Le.bl | exact Le.lb | exact Le.nils | exact Le.nilsFull | exact Le.none | exact LeL.nil _ | refine LeL.cons ?_ ?_ | refine Le.tup ?_ | refine Le.agg ?_ | exact Le.refl _ _ | exact LeL.refl _ _)), trivial, (by (repeat' (first | with_reducible assumption | exact ClL.nil | exact Cl.int _ _ | exact Cl.bool _ | exact Cl.bl _ | exact Cl.bs _ | exact Cl.str _ | exact Cl.nils | exact Cl.nilp | exact Cl.rec _ | exact Cl.bat _ | exact Cl.recsV _ | exact Cl.strsV _ | exact Cl.intsV _ | exact Cl.req _ | exact Cl.rsp _ | exact Cl.reqA _ | exact Cl.rspA _ | exact Cl.batsV _ | exact Cl.getB _ | exact Cl.encA _ | exact Cl.firstA _ | refine ClL.cons ?_ ?_ | refine Cl.tup ?_ | refine Cl.agg ?_ | exact ClO.RO _ _)) : Cl _) _, trivial⟩
    rw [recs_length] at h
    rw [← Bool.not_eq_true] at h; simp only [Bool.cond_true_left, Bool.cond_false_right, Bool.or_eq_true, Bool.and_eq_true, Bool.not_eq_true', decide_eq_true_eq, beq_iff_eq, bne_iff_ne, u8s_length, gt_iff_lt, ge_iff_le] at h
    have := hh hlt
    have hi' : i = b.recs.length := by omega
    rw [hi', List.take_length] at this
    omega

theorem fine0 {b : Bat} (h : ¬ HeadBad b) (hr : b.recs = []) : b.chk = 0 ∧ b.enc.length = 50 := by
  have h1 : b.enc.length = 50 := by
    rw [batE_len, Bat.rest, List.length_append, head_len, hr]; rfl
  refine ⟨?_, h1⟩
  refine chk_ok h (by rw [hr]; simp) (by rw [hr]; rfl) (by omega)

theorem awake5 : CallOK Try.prog 37 [] [] 0 (Out (.bool true) [] 0) := by
  refine CallOK.fit (by decide) ?_
  refine callOK Try.call37 Try.func37 Try.ntmps37 rfl ?_
  conv => arg 4; whnf
  refine holds_args (args' := [(⟨5, 5, 0, 0, 0, []⟩ : Bat).av]) ⟨by show Le _ (.agg _) (.agg _); (repeat' (first | with_reducible exact Le.refl _ _ | exact Le.bl | exact Le.lb | exact Le.nils | exact Le.nilsFull | exact Le.none | exact LeL.nil _ | refine LeL.cons ?_ ?_ | refine Le.tup ?_ | refine Le.agg ?_ | exact Le.refl _ _ | exact LeL.refl _ _)), trivial⟩ ?_
  have f0 := fine0 (b := ⟨5, 5, 0, 0, 0, []⟩) (by unfold HeadBad; simp) rfl
  refine call0 (batEnc (by decide)) (by (repeat' (first | with_reducible assumption | exact ClL.nil | exact Cl.int _ _ | exact Cl.bool _ | exact Cl.bl _ | exact Cl.bs _ | exact Cl.str _ | exact Cl.nils | exact Cl.nilp | exact Cl.rec _ | exact Cl.bat _ | exact Cl.recsV _ | exact Cl.strsV _ | exact Cl.intsV _ | exact Cl.req _ | exact Cl.rsp _ | exact Cl.reqA _ | exact Cl.rspA _ | exact Cl.batsV _ | exact Cl.getB _ | exact Cl.encA _ | exact Cl.firstA _ | refine ClL.cons ?_ ?_ | refine Cl.tup ?_ | refine Cl.agg ?_ | exact ClO.RO _ _))) (Cl.encA _) ?_
  rw [encA_yes f0.1]
  (conv => arg 4; whnf); repeat (refine ⟨rfl, ?_⟩; conv => arg 4; whnf)
  refine holds_args (args' := [bs []]) ⟨Le.nils, trivial⟩ ?_
  have d0 : decE [] = 2 := by
    unfold decE
    rw [if_neg]
    rintro ⟨h1, h2⟩
    exact firstN_zero.1 h2 h1
  refine call0 (batDecode (p := []) (by decide)) (by (repeat' (first | with_reducible assumption | exact ClL.nil | exact Cl.int _ _ | exact Cl.bool _ | exact Cl.bl _ | exact Cl.bs _ | exact Cl.str _ | exact Cl.nils | exact Cl.nilp | exact Cl.rec _ | exact Cl.bat _ | exact Cl.recsV _ | exact Cl.strsV _ | exact Cl.intsV _ | exact Cl.req _ | exact Cl.rsp _ | exact Cl.reqA _ | exact Cl.rspA _ | exact Cl.batsV _ | exact Cl.getB _ | exact Cl.encA _ | exact Cl.firstA _ | refine ClL.cons ?_ ?_ | refine Cl.tup ?_ | refine Cl.agg ?_ | exact ClO.RO _ _))) (by (repeat' (first | with_reducible assumption | exact ClL.nil | exact Cl.int _ _ | exact Cl.bool _ | exact Cl.bl _ | exact Cl.bs _ | exact Cl.str _ | exact Cl.nils | exact Cl.nilp | exact Cl.rec _ | exact Cl.bat _ | exact Cl.recsV _ | exact Cl.strsV _ | exact Cl.intsV _ | exact Cl.req _ | exact Cl.rsp _ | exact Cl.reqA _ | exact Cl.rspA _ | exact Cl.batsV _ | exact Cl.getB _ | exact Cl.encA _ | exact Cl.firstA _ | refine ClL.cons ?_ ?_ | refine Cl.tup ?_ | refine Cl.agg ?_ | exact ClO.RO _ _))) ?_
  rw [d0]
  (conv => arg 4; whnf); repeat (refine ⟨rfl, ?_⟩; conv => arg 4; whnf)
  have e5 : (((u8s (Bat.enc ⟨5, 5, 0, 0, 0, []⟩)).length : Int) == 50) = true := by rw [u8s_length, f0.2]; rfl
  rw [e5]
  refine ⟨fun _ => ?_, fun h => absurd h (by decide)⟩
  (conv => arg 4; whnf); repeat (refine ⟨rfl, ?_⟩; conv => arg 4; whnf)
  refine holds_args (args' := [(⟨1, 0, 0, 0, 0, []⟩ : Bat).av]) ⟨by show Le _ (.agg _) (.agg _); (repeat' (first | with_reducible exact Le.refl _ _ | exact Le.bl | exact Le.lb | exact Le.nils | exact Le.nilsFull | exact Le.none | exact LeL.nil _ | refine LeL.cons ?_ ?_ | refine Le.tup ?_ | refine Le.agg ?_ | exact Le.refl _ _ | exact LeL.refl _ _)), trivial⟩ ?_
  have c1 : Bat.chk ⟨1, 0, 0, 0, 0, []⟩ = 1 := chk_head (by unfold HeadBad; simp)
  refine call0 (batCheck (by decide)) (by (repeat' (first | with_reducible assumption | exact ClL.nil | exact Cl.int _ _ | exact Cl.bool _ | exact Cl.bl _ | exact Cl.bs _ | exact Cl.str _ | exact Cl.nils | exact Cl.nilp | exact Cl.rec _ | exact Cl.bat _ | exact Cl.recsV _ | exact Cl.strsV _ | exact Cl.intsV _ | exact Cl.req _ | exact Cl.rsp _ | exact Cl.reqA _ | exact Cl.rspA _ | exact Cl.batsV _ | exact Cl.getB _ | exact Cl.encA _ | exact Cl.firstA _ | refine ClL.cons ?_ ?_ | refine Cl.tup ?_ | refine Cl.agg ?_ | exact ClO.RO _ _))) (by (repeat' (first | with_reducible assumption | exact ClL.nil | exact Cl.int _ _ | exact Cl.bool _ | exact Cl.bl _ | exact Cl.bs _ | exact Cl.str _ | exact Cl.nils | exact Cl.nilp | exact Cl.rec _ | exact Cl.bat _ | exact Cl.recsV _ | exact Cl.strsV _ | exact Cl.intsV _ | exact Cl.req _ | exact Cl.rsp _ | exact Cl.reqA _ | exact Cl.rspA _ | exact Cl.batsV _ | exact Cl.getB _ | exact Cl.encA _ | exact Cl.firstA _ | refine ClL.cons ?_ ?_ | refine Cl.tup ?_ | refine Cl.agg ?_ | exact ClO.RO _ _))) ?_
  rw [c1]
  (conv => arg 4; whnf); repeat (refine ⟨rfl, ?_⟩; conv => arg 4; whnf)
  exact ⟨by decide, by (repeat' (first | with_reducible exact Le.refl _ _ | exact Le.bl | exact Le.lb | exact Le.nils | exact Le.nilsFull | exact Le.none | exact LeL.nil _ | refine LeL.cons ?_ ?_ | refine Le.tup ?_ | refine Le.agg ?_ | exact Le.refl _ _ | exact LeL.refl _ _)), trivial, (by (repeat' (first | with_reducible assumption | exact ClL.nil | exact Cl.int _ _ | exact Cl.bool _ | exact Cl.bl _ | exact Cl.bs _ | exact Cl.str _ | exact Cl.nils | exact Cl.nilp | exact Cl.rec _ | exact Cl.bat _ | exact Cl.recsV _ | exact Cl.strsV _ | exact Cl.intsV _ | exact Cl.req _ | exact Cl.rsp _ | exact Cl.reqA _ | exact Cl.rspA _ | exact Cl.batsV _ | exact Cl.getB _ | exact Cl.encA _ | exact Cl.firstA _ | refine ClL.cons ?_ ?_ | refine Cl.tup ?_ | refine Cl.agg ?_ | exact ClO.RO _ _)) : Cl _) _, trivial⟩
end Go.Proofs.Ythclmkhkchbpiaa

namespace Go.Proofs.Ythclmkhkchbpiaa
set_option maxRecDepth 100000
set_option maxHeartbeats 80000000
open Go.Sym

abbrev Tru (a : AV) (_ : Heap) (_ : Nat) : Prop := a = .bool true ∨ a = .bl true

theorem weighs_le {n : Int} {w : Nat} (h : Weighs n w) (k : n ≤ 5000) : w ≤ 5000 := by
  have := h.2.2 (by omega)
  omega

theorem lawSame {a b : Bat} (ha : a.recs.length ≤ 1000000000000000) (hb : b.recs.length ≤ 1000000000000000) : CallOK Try.prog 10 [a.av, b.av] [] 0 Tru := by
  refine callOK Try.call10 Try.func10 Try.ntmps10 rfl ?_
  conv => arg 4; whnf
  refine call0E (alikeBatch ha) (by (repeat' (first | with_reducible assumption | exact ClL.nil | exact Cl.int _ _ | exact Cl.bool _ | exact Cl.bl _ | exact Cl.bs _ | exact Cl.str _ | exact Cl.nils | exact Cl.nilp | exact Cl.rec _ | exact Cl.bat _ | exact Cl.recsV _ | exact Cl.strsV _ | exact Cl.intsV _ | exact Cl.req _ | exact Cl.rsp _ | exact Cl.reqA _ | exact Cl.rspA _ | exact Cl.batsV _ | exact Cl.getB _ | exact Cl.encA _ | exact Cl.firstA _ | refine ClL.cons ?_ ?_ | refine Cl.tup ?_ | refine Cl.agg ?_ | exact ClO.RO _ _))) (fun x => by (repeat' (first | with_reducible assumption | exact ClL.nil | exact Cl.int _ _ | exact Cl.bool _ | exact Cl.bl _ | exact Cl.bs _ | exact Cl.str _ | exact Cl.nils | exact Cl.nilp | exact Cl.rec _ | exact Cl.bat _ | exact Cl.recsV _ | exact Cl.strsV _ | exact Cl.intsV _ | exact Cl.req _ | exact Cl.rsp _ | exact Cl.reqA _ | exact Cl.rspA _ | exact Cl.batsV _ | exact Cl.getB _ | exact Cl.encA _ | exact Cl.firstA _ | refine ClL.cons ?_ ?_ | refine Cl.tup ?_ | refine Cl.agg ?_ | exact ClO.RO _ _))) fun n hn => ?_
  (conv => arg 4; whnf); repeat (refine ⟨rfl, ?_⟩; conv => arg 4; whnf)
  refine call0E (alikeBatch hb) (by (repeat' (first | with_reducible assumption | exact ClL.nil | exact Cl.int _ _ | exact Cl.bool _ | exact Cl.bl _ | exact Cl.bs _ | exact Cl.str _ | exact Cl.nils | exact Cl.nilp | exact Cl.rec _ | exact Cl.bat _ | exact Cl.recsV _ | exact Cl.strsV _ | exact Cl.intsV _ | exact Cl.req _ | exact Cl.rsp _ | exact Cl.reqA _ | exact Cl.rspA _ | exact Cl.batsV _ | exact Cl.getB _ | exact Cl.encA _ | exact Cl.firstA _ | refine ClL.cons ?_ ?_ | refine Cl.tup ?_ | refine Cl.agg ?_ | exact ClO.RO _ _))) (fun x => by (repeat' (first | with_reducible assumption | exact ClL.nil | exact Cl.int _ _ | exact Cl.bool _ | exact Cl.bl _ | exact Cl.bs _ | exact Cl.str _ | exact Cl.nils | exact Cl.nilp | exact Cl.rec _ | exact Cl.bat _ | exact Cl.recsV _ | exact Cl.strsV _ | exact Cl.intsV _ | exact Cl.req _ | exact Cl.rsp _ | exact Cl.reqA _ | exact Cl.rspA _ | exact Cl.batsV _ | exact Cl.getB _ | exact Cl.encA _ | exact Cl.firstA _ | refine ClL.cons ?_ ?_ | refine Cl.tup ?_ | refine Cl.agg ?_ | exact ClO.RO _ _))) fun m hm => ?_
  (conv => arg 4; whnf); repeat (refine ⟨rfl, ?_⟩; conv => arg 4; whnf)
  have hx0 : ∀ y ∈ [m], 0 ≤ y := by intro y hy; simp at hy; have := hm.1; omega
  refine holds_args (args' := [.int .i64 n, .sl .none 0 (ints [m])]) ⟨Le.refl _ _, Le.noneOf rfl, trivial⟩ ?_
  refine call0 (sum ⟨hn.1, hn.2.1⟩ hx0 (by simp)) (ClL.cons (Cl.int _ _) (ClL.cons (Cl.sl (fun ρ => ren_ints ρ _)) ClL.nil)) (Cl.int _ _) ?_
  have he := isum_eq ⟨hn.1, hn.2.1⟩ hx0
  (conv => arg 4; whnf); repeat (refine ⟨rfl, ?_⟩; conv => arg 4; whnf)
  refine ⟨fun h => ?_, fun h => ?_⟩
  · (conv => arg 4; whnf); repeat (refine ⟨rfl, ?_⟩; conv => arg 4; whnf)
    refine call0 awake5 (by (repeat' (first | with_reducible assumption | exact ClL.nil | exact Cl.int _ _ | exact Cl.bool _ | exact Cl.bl _ | exact Cl.bs _ | exact Cl.str _ | exact Cl.nils | exact Cl.nilp | exact Cl.rec _ | exact Cl.bat _ | exact Cl.recsV _ | exact Cl.strsV _ | exact Cl.intsV _ | exact Cl.req _ | exact Cl.rsp _ | exact Cl.reqA _ | exact Cl.rspA _ | exact Cl.batsV _ | exact Cl.getB _ | exact Cl.encA _ | exact Cl.firstA _ | refine ClL.cons ?_ ?_ | refine Cl.tup ?_ | refine Cl.agg ?_ | exact ClO.RO _ _))) (by (repeat' (first | with_reducible assumption | exact ClL.nil | exact Cl.int _ _ | exact Cl.bool _ | exact Cl.bl _ | exact Cl.bs _ | exact Cl.str _ | exact Cl.nils | exact Cl.nilp | exact Cl.rec _ | exact Cl.bat _ | exact Cl.recsV _ | exact Cl.strsV _ | exact Cl.intsV _ | exact Cl.req _ | exact Cl.rsp _ | exact Cl.reqA _ | exact Cl.rspA _ | exact Cl.batsV _ | exact Cl.getB _ | exact Cl.encA _ | exact Cl.firstA _ | refine ClL.cons ?_ ?_ | refine Cl.tup ?_ | refine Cl.agg ?_ | exact ClO.RO _ _))) ?_
    (conv => arg 4; whnf); repeat (refine ⟨rfl, ?_⟩; conv => arg 4; whnf)
    exact .inl rfl
  · have h : isum n [m] ≤ 5000 := by simpa using h
    rw [he (by omega)] at h
    simp only [List.sum_cons, List.sum_nil] at h
    have hn0 := hn.1
    have hm0 := hm.1
    have wa := weighs_le hn (by omega)
    have wb := weighs_le hm (by omega)
    have la := wtR_length a.recs
    have lb := wtR_length b.recs
    (conv => arg 4; whnf); repeat (refine ⟨rfl, ?_⟩; conv => arg 4; whnf)
    refine call0 (batSame (a := a) (b := b) (by omega)) (by (repeat' (first | with_reducible assumption | exact ClL.nil | exact Cl.int _ _ | exact Cl.bool _ | exact Cl.bl _ | exact Cl.bs _ | exact Cl.str _ | exact Cl.nils | exact Cl.nilp | exact Cl.rec _ | exact Cl.bat _ | exact Cl.recsV _ | exact Cl.strsV _ | exact Cl.intsV _ | exact Cl.req _ | exact Cl.rsp _ | exact Cl.reqA _ | exact Cl.rspA _ | exact Cl.batsV _ | exact Cl.getB _ | exact Cl.encA _ | exact Cl.firstA _ | refine ClL.cons ?_ ?_ | refine Cl.tup ?_ | refine Cl.agg ?_ | exact ClO.RO _ _))) (by (repeat' (first | with_reducible assumption | exact ClL.nil | exact Cl.int _ _ | exact Cl.bool _ | exact Cl.bl _ | exact Cl.bs _ | exact Cl.str _ | exact Cl.nils | exact Cl.nilp | exact Cl.rec _ | exact Cl.bat _ | exact Cl.recsV _ | exact Cl.strsV _ | exact Cl.intsV _ | exact Cl.req _ | exact Cl.rsp _ | exact Cl.reqA _ | exact Cl.rspA _ | exact Cl.batsV _ | exact Cl.getB _ | exact Cl.encA _ | exact Cl.firstA _ | refine ClL.cons ?_ ?_ | refine Cl.tup ?_ | refine Cl.agg ?_ | exact ClO.RO _ _))) ?_
    (conv => arg 4; whnf); repeat (refine ⟨rfl, ?_⟩; conv => arg 4; whnf)
    refine call0 (refSame (a := a) (b := b) (by omega)) (by (repeat' (first | with_reducible assumption | exact ClL.nil | exact Cl.int _ _ | exact Cl.bool _ | exact Cl.bl _ | exact Cl.bs _ | exact Cl.str _ | exact Cl.nils | exact Cl.nilp | exact Cl.rec _ | exact Cl.bat _ | exact Cl.recsV _ | exact Cl.strsV _ | exact Cl.intsV _ | exact Cl.req _ | exact Cl.rsp _ | exact Cl.reqA _ | exact Cl.rspA _ | exact Cl.batsV _ | exact Cl.getB _ | exact Cl.encA _ | exact Cl.firstA _ | refine ClL.cons ?_ ?_ | refine Cl.tup ?_ | refine Cl.agg ?_ | exact ClO.RO _ _))) (by (repeat' (first | with_reducible assumption | exact ClL.nil | exact Cl.int _ _ | exact Cl.bool _ | exact Cl.bl _ | exact Cl.bs _ | exact Cl.str _ | exact Cl.nils | exact Cl.nilp | exact Cl.rec _ | exact Cl.bat _ | exact Cl.recsV _ | exact Cl.strsV _ | exact Cl.intsV _ | exact Cl.req _ | exact Cl.rsp _ | exact Cl.reqA _ | exact Cl.rspA _ | exact Cl.batsV _ | exact Cl.getB _ | exact Cl.encA _ | exact Cl.firstA _ | refine ClL.cons ?_ ?_ | refine Cl.tup ?_ | refine Cl.agg ?_ | exact ClO.RO _ _))) ?_
    (conv => arg 4; whnf); repeat (refine ⟨rfl, ?_⟩; conv => arg 4; whnf)
    refine ⟨fun _ => ?_, fun h => absurd h (by first | (simp; done) | (simp [u8s]; done))⟩
    conv => arg 4; whnf
    refine call0 (batSame (a := b) (b := a) (by omega)) (by (repeat' (first | with_reducible assumption | exact ClL.nil | exact Cl.int _ _ | exact Cl.bool _ | exact Cl.bl _ | exact Cl.bs _ | exact Cl.str _ | exact Cl.nils | exact Cl.nilp | exact Cl.rec _ | exact Cl.bat _ | exact Cl.recsV _ | exact Cl.strsV _ | exact Cl.intsV _ | exact Cl.req _ | exact Cl.rsp _ | exact Cl.reqA _ | exact Cl.rspA _ | exact Cl.batsV _ | exact Cl.getB _ | exact Cl.encA _ | exact Cl.firstA _ | refine ClL.cons ?_ ?_ | refine Cl.tup ?_ | refine Cl.agg ?_ | exact ClO.RO _ _))) (by (repeat' (first | with_reducible assumption | exact ClL.nil | exact Cl.int _ _ | exact Cl.bool _ | exact Cl.bl _ | exact Cl.bs _ | exact Cl.str _ | exact Cl.nils | exact Cl.nilp | exact Cl.rec _ | exact Cl.bat _ | exact Cl.recsV _ | exact Cl.strsV _ | exact Cl.intsV _ | exact Cl.req _ | exact Cl.rsp _ | exact Cl.reqA _ | exact Cl.rspA _ | exact Cl.batsV _ | exact Cl.getB _ | exact Cl.encA _ | exact Cl.firstA _ | refine ClL.cons ?_ ?_ | refine Cl.tup ?_ | refine Cl.agg ?_ | exact ClO.RO _ _))) ?_
    (conv => arg 4; whnf); repeat (refine ⟨rfl, ?_⟩; conv => arg 4; whnf)
    refine call0 (batSame (a := a) (b := b) (by omega)) (by (repeat' (first | with_reducible assumption | exact ClL.nil | exact Cl.int _ _ | exact Cl.bool _ | exact Cl.bl _ | exact Cl.bs _ | exact Cl.str _ | exact Cl.nils | exact Cl.nilp | exact Cl.rec _ | exact Cl.bat _ | exact Cl.recsV _ | exact Cl.strsV _ | exact Cl.intsV _ | exact Cl.req _ | exact Cl.rsp _ | exact Cl.reqA _ | exact Cl.rspA _ | exact Cl.batsV _ | exact Cl.getB _ | exact Cl.encA _ | exact Cl.firstA _ | refine ClL.cons ?_ ?_ | refine Cl.tup ?_ | refine Cl.agg ?_ | exact ClO.RO _ _))) (by (repeat' (first | with_reducible assumption | exact ClL.nil | exact Cl.int _ _ | exact Cl.bool _ | exact Cl.bl _ | exact Cl.bs _ | exact Cl.str _ | exact Cl.nils | exact Cl.nilp | exact Cl.rec _ | exact Cl.bat _ | exact Cl.recsV _ | exact Cl.strsV _ | exact Cl.intsV _ | exact Cl.req _ | exact Cl.rsp _ | exact Cl.reqA _ | exact Cl.rspA _ | exact Cl.batsV _ | exact Cl.getB _ | exact Cl.encA _ | exact Cl.firstA _ | refine ClL.cons ?_ ?_ | refine Cl.tup ?_ | refine Cl.agg ?_ | exact ClO.RO _ _))) ?_
    (conv => arg 4; whnf); repeat (refine ⟨rfl, ?_⟩; conv => arg 4; whnf)
    have hc : (decide (b = a) == decide (a = b)) = true := by by_cases q : a = b <;> simp [q, eq_comm]
    refine ⟨fun _ => ?_, fun h' => absurd hc (by simp only [h']; simp)⟩
    (conv => arg 4; whnf); repeat (refine ⟨rfl, ?_⟩; conv => arg 4; whnf)
    refine call0 awake5 (by (repeat' (first | with_reducible assumption | exact ClL.nil | exact Cl.int _ _ | exact Cl.bool _ | exact Cl.bl _ | exact Cl.bs _ | exact Cl.str _ | exact Cl.nils | exact Cl.nilp | exact Cl.rec _ | exact Cl.bat _ | exact Cl.recsV _ | exact Cl.strsV _ | exact Cl.intsV _ | exact Cl.req _ | exact Cl.rsp _ | exact Cl.reqA _ | exact Cl.rspA _ | exact Cl.batsV _ | exact Cl.getB _ | exact Cl.encA _ | exact Cl.firstA _ | refine ClL.cons ?_ ?_ | refine Cl.tup ?_ | refine Cl.agg ?_ | exact ClO.RO _ _))) (by (repeat' (first | with_reducible assumption | exact ClL.nil | exact Cl.int _ _ | exact Cl.bool _ | exact Cl.bl _ | exact Cl.bs _ | exact Cl.str _ | exact Cl.nils | exact Cl.nilp | exact Cl.rec _ | exact Cl.bat _ | exact Cl.recsV _ | exact Cl.strsV _ | exact Cl.intsV _ | exact Cl.req _ | exact Cl.rsp _ | exact Cl.reqA _ | exact Cl.rspA _ | exact Cl.batsV _ | exact Cl.getB _ | exact Cl.encA _ | exact Cl.firstA _ | refine ClL.cons ?_ ?_ | refine Cl.tup ?_ | refine Cl.agg ?_ | exact ClO.RO _ _))) ?_
    (conv => arg 4; whnf); repeat (refine ⟨rfl, ?_⟩; conv => arg 4; whnf)
    exact .inl rfl

theorem lawWrites {b : Bat} (hb : b.recs.length ≤ 1000000000000000) : CallOK Try.prog 11 [b.av] [] 0 Tru := by
  refine callOK Try.call11 Try.func11 Try.ntmps11 rfl ?_
  conv => arg 4; whnf
  refine call0E (alikeBatch hb) (by (repeat' (first | with_reducible assumption | exact ClL.nil | exact Cl.int _ _ | exact Cl.bool _ | exact Cl.bl _ | exact Cl.bs _ | exact Cl.str _ | exact Cl.nils | exact Cl.nilp | exact Cl.rec _ | exact Cl.bat _ | exact Cl.recsV _ | exact Cl.strsV _ | exact Cl.intsV _ | exact Cl.req _ | exact Cl.rsp _ | exact Cl.reqA _ | exact Cl.rspA _ | exact Cl.batsV _ | exact Cl.getB _ | exact Cl.encA _ | exact Cl.firstA _ | refine ClL.cons ?_ ?_ | refine Cl.tup ?_ | refine Cl.agg ?_ | exact ClO.RO _ _))) (fun x => by (repeat' (first | with_reducible assumption | exact ClL.nil | exact Cl.int _ _ | exact Cl.bool _ | exact Cl.bl _ | exact Cl.bs _ | exact Cl.str _ | exact Cl.nils | exact Cl.nilp | exact Cl.rec _ | exact Cl.bat _ | exact Cl.recsV _ | exact Cl.strsV _ | exact Cl.intsV _ | exact Cl.req _ | exact Cl.rsp _ | exact Cl.reqA _ | exact Cl.rspA _ | exact Cl.batsV _ | exact Cl.getB _ | exact Cl.encA _ | exact Cl.firstA _ | refine ClL.cons ?_ ?_ | refine Cl.tup ?_ | refine Cl.agg ?_ | exact ClO.RO _ _))) fun n hn => ?_
  (conv => arg 4; whnf); repeat (refine ⟨rfl, ?_⟩; conv => arg 4; whnf)
  refine ⟨fun h => ?_, fun h => ?_⟩
  · (conv => arg 4; whnf); repeat (refine ⟨rfl, ?_⟩; conv => arg 4; whnf)
    refine call0 awake5 (by (repeat' (first | with_reducible assumption | exact ClL.nil | exact Cl.int _ _ | exact Cl.bool _ | exact Cl.bl _ | exact Cl.bs _ | exact Cl.str _ | exact Cl.nils | exact Cl.nilp | exact Cl.rec _ | exact Cl.bat _ | exact Cl.recsV _ | exact Cl.strsV _ | exact Cl.intsV _ | exact Cl.req _ | exact Cl.rsp _ | exact Cl.reqA _ | exact Cl.rspA _ | exact Cl.batsV _ | exact Cl.getB _ | exact Cl.encA _ | exact Cl.firstA _ | refine ClL.cons ?_ ?_ | refine Cl.tup ?_ | refine Cl.agg ?_ | exact ClO.RO _ _))) (by (repeat' (first | with_reducible assumption | exact ClL.nil | exact Cl.int _ _ | exact Cl.bool _ | exact Cl.bl _ | exact Cl.bs _ | exact Cl.str _ | exact Cl.nils | exact Cl.nilp | exact Cl.rec _ | exact Cl.bat _ | exact Cl.recsV _ | exact Cl.strsV _ | exact Cl.intsV _ | exact Cl.req _ | exact Cl.rsp _ | exact Cl.reqA _ | exact Cl.rspA _ | exact Cl.batsV _ | exact Cl.getB _ | exact Cl.encA _ | exact Cl.firstA _ | refine ClL.cons ?_ ?_ | refine Cl.tup ?_ | refine Cl.agg ?_ | exact ClO.RO _ _))) ?_
    (conv => arg 4; whnf); repeat (refine ⟨rfl, ?_⟩; conv => arg 4; whnf)
    exact .inl rfl
  · rw [recs_length] at h
    rw [← Bool.not_eq_true] at h; simp only [Bool.cond_true_left, Bool.cond_false_right, Bool.or_eq_true, Bool.and_eq_true, Bool.not_eq_true', decide_eq_true_eq, beq_iff_eq, bne_iff_ne, u8s_length, gt_iff_lt, ge_iff_le] at h
    have wb := weighs_le hn (by omega)
    have lb := wtR_length b.recs
    (conv => arg 4; whnf); repeat (refine ⟨rfl, ?_⟩; conv => arg 4; whnf)
    refine call0 (batEnc (by omega)) (by (repeat' (first | with_reducible assumption | exact ClL.nil | exact Cl.int _ _ | exact Cl.bool _ | exact Cl.bl _ | exact Cl.bs _ | exact Cl.str _ | exact Cl.nils | exact Cl.nilp | exact Cl.rec _ | exact Cl.bat _ | exact Cl.recsV _ | exact Cl.strsV _ | exact Cl.intsV _ | exact Cl.req _ | exact Cl.rsp _ | exact Cl.reqA _ | exact Cl.rspA _ | exact Cl.batsV _ | exact Cl.getB _ | exact Cl.encA _ | exact Cl.firstA _ | refine ClL.cons ?_ ?_ | refine Cl.tup ?_ | refine Cl.agg ?_ | exact ClO.RO _ _))) (by (repeat' (first | with_reducible assumption | exact ClL.nil | exact Cl.int _ _ | exact Cl.bool _ | exact Cl.bl _ | exact Cl.bs _ | exact Cl.str _ | exact Cl.nils | exact Cl.nilp | exact Cl.rec _ | exact Cl.bat _ | exact Cl.recsV _ | exact Cl.strsV _ | exact Cl.intsV _ | exact Cl.req _ | exact Cl.rsp _ | exact Cl.reqA _ | exact Cl.rspA _ | exact Cl.batsV _ | exact Cl.getB _ | exact Cl.encA _ | exact Cl.firstA _ | refine ClL.cons ?_ ?_ | refine Cl.tup ?_ | refine Cl.agg ?_ | exact ClO.RO _ _))) ?_
    (conv => arg 4; whnf); repeat (refine ⟨rfl, ?_⟩; conv => arg 4; whnf)
    refine call0 (refEnc (by omega)) (by (repeat' (first | with_reducible assumption | exact ClL.nil | exact Cl.int _ _ | exact Cl.bool _ | exact Cl.bl _ | exact Cl.bs _ | exact Cl.str _ | exact Cl.nils | exact Cl.nilp | exact Cl.rec _ | exact Cl.bat _ | exact Cl.recsV _ | exact Cl.strsV _ | exact Cl.intsV _ | exact Cl.req _ | exact Cl.rsp _ | exact Cl.reqA _ | exact Cl.rspA _ | exact Cl.batsV _ | exact Cl.getB _ | exact Cl.encA _ | exact Cl.firstA _ | refine ClL.cons ?_ ?_ | refine Cl.tup ?_ | refine Cl.agg ?_ | exact ClO.RO _ _))) (by (repeat' (first | with_reducible assumption | exact ClL.nil | exact Cl.int _ _ | exact Cl.bool _ | exact Cl.bl _ | exact Cl.bs _ | exact Cl.str _ | exact Cl.nils | exact Cl.nilp | exact Cl.rec _ | exact Cl.bat _ | exact Cl.recsV _ | exact Cl.strsV _ | exact Cl.intsV _ | exact Cl.req _ | exact Cl.rsp _ | exact Cl.reqA _ | exact Cl.rspA _ | exact Cl.batsV _ | exact Cl.getB _ | exact Cl.encA _ | exact Cl.firstA _ | refine ClL.cons ?_ ?_ | refine Cl.tup ?_ | refine Cl.agg ?_ | exact ClO.RO _ _))) ?_
    (conv => arg 4; whnf); repeat (refine ⟨rfl, ?_⟩; conv => arg 4; whnf)
    refine call0 (batTimes (by omega)) (by (repeat' (first | with_reducible assumption | exact ClL.nil | exact Cl.int _ _ | exact Cl.bool _ | exact Cl.bl _ | exact Cl.bs _ | exact Cl.str _ | exact Cl.nils | exact Cl.nilp | exact Cl.rec _ | exact Cl.bat _ | exact Cl.recsV _ | exact Cl.strsV _ | exact Cl.intsV _ | exact Cl.req _ | exact Cl.rsp _ | exact Cl.reqA _ | exact Cl.rspA _ | exact Cl.batsV _ | exact Cl.getB _ | exact Cl.encA _ | exact Cl.firstA _ | refine ClL.cons ?_ ?_ | refine Cl.tup ?_ | refine Cl.agg ?_ | exact ClO.RO _ _))) (by (repeat' (first | with_reducible assumption | exact ClL.nil | exact Cl.int _ _ | exact Cl.bool _ | exact Cl.bl _ | exact Cl.bs _ | exact Cl.str _ | exact Cl.nils | exact Cl.nilp | exact Cl.rec _ | exact Cl.bat _ | exact Cl.recsV _ | exact Cl.strsV _ | exact Cl.intsV _ | exact Cl.req _ | exact Cl.rsp _ | exact Cl.reqA _ | exact Cl.rspA _ | exact Cl.batsV _ | exact Cl.getB _ | exact Cl.encA _ | exact Cl.firstA _ | refine ClL.cons ?_ ?_ | refine Cl.tup ?_ | refine Cl.agg ?_ | exact ClO.RO _ _))) ?_
    (conv => arg 4; whnf); repeat (refine ⟨rfl, ?_⟩; conv => arg 4; whnf)
    refine call0 (refTimes (by omega)) (by (repeat' (first | with_reducible assumption | exact ClL.nil | exact Cl.int _ _ | exact Cl.bool _ | exact Cl.bl _ | exact Cl.bs _ | exact Cl.str _ | exact Cl.nils | exact Cl.nilp | exact Cl.rec _ | exact Cl.bat _ | exact Cl.recsV _ | exact Cl.strsV _ | exact Cl.intsV _ | exact Cl.req _ | exact Cl.rsp _ | exact Cl.reqA _ | exact Cl.rspA _ | exact Cl.batsV _ | exact Cl.getB _ | exact Cl.encA _ | exact Cl.firstA _ | refine ClL.cons ?_ ?_ | refine Cl.tup ?_ | refine Cl.agg ?_ | exact ClO.RO _ _))) (by (repeat' (first | with_reducible assumption | exact ClL.nil | exact Cl.int _ _ | exact Cl.bool _ | exact Cl.bl _ | exact Cl.bs _ | exact Cl.str _ | exact Cl.nils | exact Cl.nilp | exact Cl.rec _ | exact Cl.bat _ | exact Cl.recsV _ | exact Cl.strsV _ | exact Cl.intsV _ | exact Cl.req _ | exact Cl.rsp _ | exact Cl.reqA _ | exact Cl.rspA _ | exact Cl.batsV _ | exact Cl.getB _ | exact Cl.encA _ | exact Cl.firstA _ | refine ClL.cons ?_ ?_ | refine Cl.tup ?_ | refine Cl.agg ?_ | exact ClO.RO _ _))) ?_
    (conv => arg 4; whnf); repeat (refine ⟨rfl, ?_⟩; conv => arg 4; whnf)
    refine call0 (batCheck (by omega)) (by (repeat' (first | with_reducible assumption | exact ClL.nil | exact Cl.int _ _ | exact Cl.bool _ | exact Cl.bl _ | exact Cl.bs _ | exact Cl.str _ | exact Cl.nils | exact Cl.nilp | exact Cl.rec _ | exact Cl.bat _ | exact Cl.recsV _ | exact Cl.strsV _ | exact Cl.intsV _ | exact Cl.req _ | exact Cl.rsp _ | exact Cl.reqA _ | exact Cl.rspA _ | exact Cl.batsV _ | exact Cl.getB _ | exact Cl.encA _ | exact Cl.firstA _ | refine ClL.cons ?_ ?_ | refine Cl.tup ?_ | refine Cl.agg ?_ | exact ClO.RO _ _))) (by (repeat' (first | with_reducible assumption | exact ClL.nil | exact Cl.int _ _ | exact Cl.bool _ | exact Cl.bl _ | exact Cl.bs _ | exact Cl.str _ | exact Cl.nils | exact Cl.nilp | exact Cl.rec _ | exact Cl.bat _ | exact Cl.recsV _ | exact Cl.strsV _ | exact Cl.intsV _ | exact Cl.req _ | exact Cl.rsp _ | exact Cl.reqA _ | exact Cl.rspA _ | exact Cl.batsV _ | exact Cl.getB _ | exact Cl.encA _ | exact Cl.firstA _ | refine ClL.cons ?_ ?_ | refine Cl.tup ?_ | refine Cl.agg ?_ | exact ClO.RO _ _))) ?_
    (conv => arg 4; whnf); repeat (refine ⟨rfl, ?_⟩; conv => arg 4; whnf)
    refine call0 (refCheck (by omega)) (by (repeat' (first | with_reducible assumption | exact ClL.nil | exact Cl.int _ _ | exact Cl.bool _ | exact Cl.bl _ | exact Cl.bs _ | exact Cl.str _ | exact Cl.nils | exact Cl.nilp | exact Cl.rec _ | exact Cl.bat _ | exact Cl.recsV _ | exact Cl.strsV _ | exact Cl.intsV _ | exact Cl.req _ | exact Cl.rsp _ | exact Cl.reqA _ | exact Cl.rspA _ | exact Cl.batsV _ | exact Cl.getB _ | exact Cl.encA _ | exact Cl.firstA _ | refine ClL.cons ?_ ?_ | refine Cl.tup ?_ | refine Cl.agg ?_ | exact ClO.RO _ _))) (by (repeat' (first | with_reducible assumption | exact ClL.nil | exact Cl.int _ _ | exact Cl.bool _ | exact Cl.bl _ | exact Cl.bs _ | exact Cl.str _ | exact Cl.nils | exact Cl.nilp | exact Cl.rec _ | exact Cl.bat _ | exact Cl.recsV _ | exact Cl.strsV _ | exact Cl.intsV _ | exact Cl.req _ | exact Cl.rsp _ | exact Cl.reqA _ | exact Cl.rspA _ | exact Cl.batsV _ | exact Cl.getB _ | exact Cl.encA _ | exact Cl.firstA _ | refine ClL.cons ?_ ?_ | refine Cl.tup ?_ | refine Cl.agg ?_ | exact ClO.RO _ _))) ?_
    (conv => arg 4; whnf); repeat (refine ⟨rfl, ?_⟩; conv => arg 4; whnf)
    refine ⟨fun _ => ?_, fun h => absurd h (by first | (simp; done) | (simp [u8s]; done))⟩
    conv => arg 4; whnf
    refine ⟨b.out, rfl, ?_⟩
    (conv => arg 4; whnf); repeat (refine ⟨rfl, ?_⟩; conv => arg 4; whnf)
    refine ⟨b.out, rfl, ?_⟩
    (conv => arg 4; whnf); repeat (refine ⟨rfl, ?_⟩; conv => arg 4; whnf)
    refine ⟨fun _ => ?_, fun h => absurd h (by first | (simp; done) | (simp [u8s]; done))⟩
    conv => arg 4; whnf
    (conv => arg 4; whnf); repeat (refine ⟨rfl, ?_⟩; conv => arg 4; whnf)
    refine ⟨fun _ => ?_, fun h => absurd h (by first | (simp; done) | (simp [u8s]; done))⟩
    conv => arg 4; whnf
    refine call0 (batSize (by omega)) (by (repeat' (first | with_reducible assumption | exact ClL.nil | exact Cl.int _ _ | exact Cl.bool _ | exact Cl.bl _ | exact Cl.bs _ | exact Cl.str _ | exact Cl.nils | exact Cl.nilp | exact Cl.rec _ | exact Cl.bat _ | exact Cl.recsV _ | exact Cl.strsV _ | exact Cl.intsV _ | exact Cl.req _ | exact Cl.rsp _ | exact Cl.reqA _ | exact Cl.rspA _ | exact Cl.batsV _ | exact Cl.getB _ | exact Cl.encA _ | exact Cl.firstA _ | refine ClL.cons ?_ ?_ | refine Cl.tup ?_ | refine Cl.agg ?_ | exact ClO.RO _ _))) (by (repeat' (first | with_reducible assumption | exact ClL.nil | exact Cl.int _ _ | exact Cl.bool _ | exact Cl.bl _ | exact Cl.bs _ | exact Cl.str _ | exact Cl.nils | exact Cl.nilp | exact Cl.rec _ | exact Cl.bat _ | exact Cl.recsV _ | exact Cl.strsV _ | exact Cl.intsV _ | exact Cl.req _ | exact Cl.rsp _ | exact Cl.reqA _ | exact Cl.rspA _ | exact Cl.batsV _ | exact Cl.getB _ | exact Cl.encA _ | exact Cl.firstA _ | refine ClL.cons ?_ ?_ | refine Cl.tup ?_ | refine Cl.agg ?_ | exact ClO.RO _ _))) ?_
    (conv => arg 4; whnf); repeat (refine ⟨rfl, ?_⟩; conv => arg 4; whnf)
    have e1 : ((b.out.length : Int) == ((u8s b.out).length : Int)) = true := by rw [u8s_length]; simp
    refine ⟨fun _ => ?_, fun h' => absurd (e1.symm.trans h') (by decide)⟩
    (conv => arg 4; whnf); repeat (refine ⟨rfl, ?_⟩; conv => arg 4; whnf)
    refine ⟨fun _ => ?_, fun h => absurd h (by first | (simp; done) | (simp [u8s]; done))⟩
    conv => arg 4; whnf
    refine ⟨fun _ => ?_, fun h => absurd h (by first | (simp; done) | (simp [u8s]; done))⟩
    conv => arg 4; whnf
    refine call0 (batSame (a := b) (b := b) (by omega)) (by (repeat' (first | with_reducible assumption | exact ClL.nil | exact Cl.int _ _ | exact Cl.bool _ | exact Cl.bl _ | exact Cl.bs _ | exact Cl.str _ | exact Cl.nils | exact Cl.nilp | exact Cl.rec _ | exact Cl.bat _ | exact Cl.recsV _ | exact Cl.strsV _ | exact Cl.intsV _ | exact Cl.req _ | exact Cl.rsp _ | exact Cl.reqA _ | exact Cl.rspA _ | exact Cl.batsV _ | exact Cl.getB _ | exact Cl.encA _ | exact Cl.firstA _ | refine ClL.cons ?_ ?_ | refine Cl.tup ?_ | refine Cl.agg ?_ | exact ClO.RO _ _))) (by (repeat' (first | with_reducible assumption | exact ClL.nil | exact Cl.int _ _ | exact Cl.bool _ | exact Cl.bl _ | exact Cl.bs _ | exact Cl.str _ | exact Cl.nils | exact Cl.nilp | exact Cl.rec _ | exact Cl.bat _ | exact Cl.recsV _ | exact Cl.strsV _ | exact Cl.intsV _ | exact Cl.req _ | exact Cl.rsp _ | exact Cl.reqA _ | exact Cl.rspA _ | exact Cl.batsV _ | exact Cl.getB _ | exact Cl.encA _ | exact Cl.firstA _ | refine ClL.cons ?_ ?_ | refine Cl.tup ?_ | refine Cl.agg ?_ | exact ClO.RO _ _))) ?_
    (conv => arg 4; whnf); repeat (refine ⟨rfl, ?_⟩; conv => arg 4; whnf)
    refine ⟨fun _ => ?_, fun h => absurd h (by first | (simp; done) | (simp [u8s]; done))⟩
    conv => arg 4; whnf
    refine call0 awake5 (by (repeat' (first | with_reducible assumption | exact ClL.nil | exact Cl.int _ _ | exact Cl.bool _ | exact Cl.bl _ | exact Cl.bs _ | exact Cl.str _ | exact Cl.nils | exact Cl.nilp | exact Cl.rec _ | exact Cl.bat _ | exact Cl.recsV _ | exact Cl.strsV _ | exact Cl.intsV _ | exact Cl.req _ | exact Cl.rsp _ | exact Cl.reqA _ | exact Cl.rspA _ | exact Cl.batsV _ | exact Cl.getB _ | exact Cl.encA _ | exact Cl.firstA _ | refine ClL.cons ?_ ?_ | refine Cl.tup ?_ | refine Cl.agg ?_ | exact ClO.RO _ _))) (by (repeat' (first | with_reducible assumption | exact ClL.nil | exact Cl.int _ _ | exact Cl.bool _ | exact Cl.bl _ | exact Cl.bs _ | exact Cl.str _ | exact Cl.nils | exact Cl.nilp | exact Cl.rec _ | exact Cl.bat _ | exact Cl.recsV _ | exact Cl.strsV _ | exact Cl.intsV _ | exact Cl.req _ | exact Cl.rsp _ | exact Cl.reqA _ | exact Cl.rspA _ | exact Cl.batsV _ | exact Cl.getB _ | exact Cl.encA _ | exact Cl.firstA _ | refine ClL.cons ?_ ?_ | refine Cl.tup ?_ | refine Cl.agg ?_ | exact ClO.RO _ _))) ?_
    (conv => arg 4; whnf); repeat (refine ⟨rfl, ?_⟩; conv => arg 4; whnf)
    exact .inl rfl

theorem first_few (p : List UInt8) : (firstB p).recs.length ≤ 100 := by
  by_cases h : firstE p = 0
  · have := (chk_fine (first_yes h).1.1).1.few
    omega
  · rw [(first_no h).2.1]; exact Nat.zero_le _

theorem lawReads {p : List UInt8} : CallOK Try.prog 7 [bs p] [] 0 Tru := by
  refine callOK Try.call7 Try.func7 Try.ntmps7 rfl ?_
  conv => arg 4; whnf
  refine ⟨fun h => ?_, fun h => ?_⟩
  · (conv => arg 4; whnf); repeat (refine ⟨rfl, ?_⟩; conv => arg 4; whnf)
    refine call0 awake5 (by (repeat' (first | with_reducible assumption | exact ClL.nil | exact Cl.int _ _ | exact Cl.bool _ | exact Cl.bl _ | exact Cl.bs _ | exact Cl.str _ | exact Cl.nils | exact Cl.nilp | exact Cl.rec _ | exact Cl.bat _ | exact Cl.recsV _ | exact Cl.strsV _ | exact Cl.intsV _ | exact Cl.req _ | exact Cl.rsp _ | exact Cl.reqA _ | exact Cl.rspA _ | exact Cl.batsV _ | exact Cl.getB _ | exact Cl.encA _ | exact Cl.firstA _ | refine ClL.cons ?_ ?_ | refine Cl.tup ?_ | refine Cl.agg ?_ | exact ClO.RO _ _))) (by (repeat' (first | with_reducible assumption | exact ClL.nil | exact Cl.int _ _ | exact Cl.bool _ | exact Cl.bl _ | exact Cl.bs _ | exact Cl.str _ | exact Cl.nils | exact Cl.nilp | exact Cl.rec _ | exact Cl.bat _ | exact Cl.recsV _ | exact Cl.strsV _ | exact Cl.intsV _ | exact Cl.req _ | exact Cl.rsp _ | exact Cl.reqA _ | exact Cl.rspA _ | exact Cl.batsV _ | exact Cl.getB _ | exact Cl.encA _ | exact Cl.firstA _ | refine ClL.cons ?_ ?_ | refine Cl.tup ?_ | refine Cl.agg ?_ | exact ClO.RO _ _))) ?_
    (conv => arg 4; whnf); repeat (refine ⟨rfl, ?_⟩; conv => arg 4; whnf)
    exact .inl rfl
  · rw [u8s_length] at h
    have h : p.length ≤ 5000 := by simp at h; omega
    (conv => arg 4; whnf); repeat (refine ⟨rfl, ?_⟩; conv => arg 4; whnf)
    refine call0 (batDecode (by omega)) (by (repeat' (first | with_reducible assumption | exact ClL.nil | exact Cl.int _ _ | exact Cl.bool _ | exact Cl.bl _ | exact Cl.bs _ | exact Cl.str _ | exact Cl.nils | exact Cl.nilp | exact Cl.rec _ | exact Cl.bat _ | exact Cl.recsV _ | exact Cl.strsV _ | exact Cl.intsV _ | exact Cl.req _ | exact Cl.rsp _ | exact Cl.reqA _ | exact Cl.rspA _ | exact Cl.batsV _ | exact Cl.getB _ | exact Cl.encA _ | exact Cl.firstA _ | refine ClL.cons ?_ ?_ | refine Cl.tup ?_ | refine Cl.agg ?_ | exact ClO.RO _ _))) (by (repeat' (first | with_reducible assumption | exact ClL.nil | exact Cl.int _ _ | exact Cl.bool _ | exact Cl.bl _ | exact Cl.bs _ | exact Cl.str _ | exact Cl.nils | exact Cl.nilp | exact Cl.rec _ | exact Cl.bat _ | exact Cl.recsV _ | exact Cl.strsV _ | exact Cl.intsV _ | exact Cl.req _ | exact Cl.rsp _ | exact Cl.reqA _ | exact Cl.rspA _ | exact Cl.batsV _ | exact Cl.getB _ | exact Cl.encA _ | exact Cl.firstA _ | refine ClL.cons ?_ ?_ | refine Cl.tup ?_ | refine Cl.agg ?_ | exact ClO.RO _ _))) ?_
    (conv => arg 4; whnf); repeat (refine ⟨rfl, ?_⟩; conv => arg 4; whnf)
    refine call0 (refDecode (by omega)) (by (repeat' (first | with_reducible assumption | exact ClL.nil | exact Cl.int _ _ | exact Cl.bool _ | exact Cl.bl _ | exact Cl.bs _ | exact Cl.str _ | exact Cl.nils | exact Cl.nilp | exact Cl.rec _ | exact Cl.bat _ | exact Cl.recsV _ | exact Cl.strsV _ | exact Cl.intsV _ | exact Cl.req _ | exact Cl.rsp _ | exact Cl.reqA _ | exact Cl.rspA _ | exact Cl.batsV _ | exact Cl.getB _ | exact Cl.encA _ | exact Cl.firstA _ | refine ClL.cons ?_ ?_ | refine Cl.tup ?_ | refine Cl.agg ?_ | exact ClO.RO _ _))) (by (repeat' (first | with_reducible assumption | exact ClL.nil | exact Cl.int _ _ | exact Cl.bool _ | exact Cl.bl _ | exact Cl.bs _ | exact Cl.str _ | exact Cl.nils | exact Cl.nilp | exact Cl.rec _ | exact Cl.bat _ | exact Cl.recsV _ | exact Cl.strsV _ | exact Cl.intsV _ | exact Cl.req _ | exact Cl.rsp _ | exact Cl.reqA _ | exact Cl.rspA _ | exact Cl.batsV _ | exact Cl.getB _ | exact Cl.encA _ | exact Cl.firstA _ | refine ClL.cons ?_ ?_ | refine Cl.tup ?_ | refine Cl.agg ?_ | exact ClO.RO _ _))) ?_
    (conv => arg 4; whnf); repeat (refine ⟨rfl, ?_⟩; conv => arg 4; whnf)
    refine call0 (batFirst' (by omega)) (by (repeat' (first | with_reducible assumption | exact ClL.nil | exact Cl.int _ _ | exact Cl.bool _ | exact Cl.bl _ | exact Cl.bs _ | exact Cl.str _ | exact Cl.nils | exact Cl.nilp | exact Cl.rec _ | exact Cl.bat _ | exact Cl.recsV _ | exact Cl.strsV _ | exact Cl.intsV _ | exact Cl.req _ | exact Cl.rsp _ | exact Cl.reqA _ | exact Cl.rspA _ | exact Cl.batsV _ | exact Cl.getB _ | exact Cl.encA _ | exact Cl.firstA _ | refine ClL.cons ?_ ?_ | refine Cl.tup ?_ | refine Cl.agg ?_ | exact ClO.RO _ _))) (by (repeat' (first | with_reducible assumption | exact ClL.nil | exact Cl.int _ _ | exact Cl.bool _ | exact Cl.bl _ | exact Cl.bs _ | exact Cl.str _ | exact Cl.nils | exact Cl.nilp | exact Cl.rec _ | exact Cl.bat _ | exact Cl.recsV _ | exact Cl.strsV _ | exact Cl.intsV _ | exact Cl.req _ | exact Cl.rsp _ | exact Cl.reqA _ | exact Cl.rspA _ | exact Cl.batsV _ | exact Cl.getB _ | exact Cl.encA _ | exact Cl.firstA _ | refine ClL.cons ?_ ?_ | refine Cl.tup ?_ | refine Cl.agg ?_ | exact ClO.RO _ _))) ?_
    (conv => arg 4; whnf); repeat (refine ⟨rfl, ?_⟩; conv => arg 4; whnf)
    refine call0 (refFirst' (by omega)) (by (repeat' (first | with_reducible assumption | exact ClL.nil | exact Cl.int _ _ | exact Cl.bool _ | exact Cl.bl _ | exact Cl.bs _ | exact Cl.str _ | exact Cl.nils | exact Cl.nilp | exact Cl.rec _ | exact Cl.bat _ | exact Cl.recsV _ | exact Cl.strsV _ | exact Cl.intsV _ | exact Cl.req _ | exact Cl.rsp _ | exact Cl.reqA _ | exact Cl.rspA _ | exact Cl.batsV _ | exact Cl.getB _ | exact Cl.encA _ | exact Cl.firstA _ | refine ClL.cons ?_ ?_ | refine Cl.tup ?_ | refine Cl.agg ?_ | exact ClO.RO _ _))) (by (repeat' (first | with_reducible assumption | exact ClL.nil | exact Cl.int _ _ | exact Cl.bool _ | exact Cl.bl _ | exact Cl.bs _ | exact Cl.str _ | exact Cl.nils | exact Cl.nilp | exact Cl.rec _ | exact Cl.bat _ | exact Cl.recsV _ | exact Cl.strsV _ | exact Cl.intsV _ | exact Cl.req _ | exact Cl.rsp _ | exact Cl.reqA _ | exact Cl.rspA _ | exact Cl.batsV _ | exact Cl.getB _ | exact Cl.encA _ | exact Cl.firstA _ | refine ClL.cons ?_ ?_ | refine Cl.tup ?_ | refine Cl.agg ?_ | exact ClO.RO _ _))) ?_
    (conv => arg 4; whnf); repeat (refine ⟨rfl, ?_⟩; conv => arg 4; whnf)
    have ld : (decB p).recs.length ≤ 1000000 := by
      unfold decB
      have := first_few p
      split
      · omega
      · exact Nat.zero_le _
    have lf : (firstB p).recs.length ≤ 1000000 := by have := first_few p; omega
    refine call0 (refSame (a := decB p) (b := decB p) ld) (by (repeat' (first | with_reducible assumption | exact ClL.nil | exact Cl.int _ _ | exact Cl.bool _ | exact Cl.bl _ | exact Cl.bs _ | exact Cl.str _ | exact Cl.nils | exact Cl.nilp | exact Cl.rec _ | exact Cl.bat _ | exact Cl.recsV _ | exact Cl.strsV _ | exact Cl.intsV _ | exact Cl.req _ | exact Cl.rsp _ | exact Cl.reqA _ | exact Cl.rspA _ | exact Cl.batsV _ | exact Cl.getB _ | exact Cl.encA _ | exact Cl.firstA _ | refine ClL.cons ?_ ?_ | refine Cl.tup ?_ | refine Cl.agg ?_ | exact ClO.RO _ _))) (by (repeat' (first | with_reducible assumption | exact ClL.nil | exact Cl.int _ _ | exact Cl.bool _ | exact Cl.bl _ | exact Cl.bs _ | exact Cl.str _ | exact Cl.nils | exact Cl.nilp | exact Cl.rec _ | exact Cl.bat _ | exact Cl.recsV _ | exact Cl.strsV _ | exact Cl.intsV _ | exact Cl.req _ | exact Cl.rsp _ | exact Cl.reqA _ | exact Cl.rspA _ | exact Cl.batsV _ | exact Cl.getB _ | exact Cl.encA _ | exact Cl.firstA _ | refine ClL.cons ?_ ?_ | refine Cl.tup ?_ | refine Cl.agg ?_ | exact ClO.RO _ _))) ?_
    (conv => arg 4; whnf); repeat (refine ⟨rfl, ?_⟩; conv => arg 4; whnf)
    refine ⟨fun _ => ?_, fun h => absurd h (by first | (simp; done) | (simp [u8s]; done))⟩
    conv => arg 4; whnf
    refine call0 (refSame (a := firstB p) (b := firstB p) lf) (by (repeat' (first | with_reducible assumption | exact ClL.nil | exact Cl.int _ _ | exact Cl.bool _ | exact Cl.bl _ | exact Cl.bs _ | exact Cl.str _ | exact Cl.nils | exact Cl.nilp | exact Cl.rec _ | exact Cl.bat _ | exact Cl.recsV _ | exact Cl.strsV _ | exact Cl.intsV _ | exact Cl.req _ | exact Cl.rsp _ | exact Cl.reqA _ | exact Cl.rspA _ | exact Cl.batsV _ | exact Cl.getB _ | exact Cl.encA _ | exact Cl.firstA _ | refine ClL.cons ?_ ?_ | refine Cl.tup ?_ | refine Cl.agg ?_ | exact ClO.RO _ _))) (by (repeat' (first | with_reducible assumption | exact ClL.nil | exact Cl.int _ _ | exact Cl.bool _ | exact Cl.bl _ | exact Cl.bs _ | exact Cl.str _ | exact Cl.nils | exact Cl.nilp | exact Cl.rec _ | exact Cl.bat _ | exact Cl.recsV _ | exact Cl.strsV _ | exact Cl.intsV _ | exact Cl.req _ | exact Cl.rsp _ | exact Cl.reqA _ | exact Cl.rspA _ | exact Cl.batsV _ | exact Cl.getB _ | exact Cl.encA _ | exact Cl.firstA _ | refine ClL.cons ?_ ?_ | refine Cl.tup ?_ | refine Cl.agg ?_ | exact ClO.RO _ _))) ?_
    (conv => arg 4; whnf); repeat (refine ⟨rfl, ?_⟩; conv => arg 4; whnf)
    have hc : (bif bif bif decide (firstB p = firstB p) then ((firstN p : Int) == (firstN p : Int)) else false then (firstE p == 0) == decide ((firstN p : Int) > 0) else false then bif firstE p == 0 then true else firstE p == 2 else false) = true := by
      have hz := firstN_zero (p := p)
      by_cases h0 : firstE p = 0
      · have : 0 < firstN p := by omega
        simp [h0, this]
      · have h2 := (first_no h0).1
        have : firstN p = 0 := by omega
        simp [h2, this]
    refine ⟨fun _ => ?_, fun h' => absurd (hc.symm.trans h') (by decide)⟩
    (conv => arg 4; whnf); repeat (refine ⟨rfl, ?_⟩; conv => arg 4; whnf)
    refine call0 awake5 (by (repeat' (first | with_reducible assumption | exact ClL.nil | exact Cl.int _ _ | exact Cl.bool _ | exact Cl.bl _ | exact Cl.bs _ | exact Cl.str _ | exact Cl.nils | exact Cl.nilp | exact Cl.rec _ | exact Cl.bat _ | exact Cl.recsV _ | exact Cl.strsV _ | exact Cl.intsV _ | exact Cl.req _ | exact Cl.rsp _ | exact Cl.reqA _ | exact Cl.rspA _ | exact Cl.batsV _ | exact Cl.getB _ | exact Cl.encA _ | exact Cl.firstA _ | refine ClL.cons ?_ ?_ | refine Cl.tup ?_ | refine Cl.agg ?_ | exact ClO.RO _ _))) (by (repeat' (first | with_reducible assumption | exact ClL.nil | exact Cl.int _ _ | exact Cl.bool _ | exact Cl.bl _ | exact Cl.bs _ | exact Cl.str _ | exact Cl.nils | exact Cl.nilp | exact Cl.rec _ | exact Cl.bat _ | exact Cl.recsV _ | exact Cl.strsV _ | exact Cl.intsV _ | exact Cl.req _ | exact Cl.rsp _ | exact Cl.reqA _ | exact Cl.rspA _ | exact Cl.batsV _ | exact Cl.getB _ | exact Cl.encA _ | exact Cl.firstA _ | refine ClL.cons ?_ ?_ | refine Cl.tup ?_ | refine Cl.agg ?_ | exact ClO.RO _ _))) ?_
    (conv => arg 4; whnf); repeat (refine ⟨rfl, ?_⟩; conv => arg 4; whnf)
    exact .inl rfl
end Go.Proofs.Ythclmkhkchbpiaa

namespace Go.Proofs.Ythclmkhkchbpiaa
set_option maxRecDepth 100000
set_option maxHeartbeats 80000000
open Go.Sym

theorem lenB_inj {s s' t t' : List UInt8} (h : lenB s ++ t = lenB s' ++ t') (hl : s.length ≤ 1000000) (hl' : s'.length ≤ 1000000) : s = s' ∧ t = t' := by
  have e1 := bytesR_put (s := s) (r := t) (most := 1000000) (by omega) (by omega)
  have e2 := bytesR_put (s := s') (r := t') (most := 1000000) (by omega) (by omega)
  unfold lenB at h
  rw [h, e2] at e1
  simp only [Prod.mk.injEq] at e1
  exact ⟨e1.1.symm, e1.2.1.symm⟩

theorem body_inj {r r' : Rec} {first base : Int} (h : r.wr first base) (h' : r'.wr first base) (e : r.body first base = r'.body first base) : r = r' := by
  have a1 := numR_put h.t (put (r.off - base) ++ (opt r.hk r.key ++ opt r.hv r.val))
  have a2 := numR_put h'.t (put (r'.off - base) ++ (opt r'.hk r'.key ++ opt r'.hv r'.val))
  have e1 : put (r.time - first) ++ (put (r.off - base) ++ (opt r.hk r.key ++ opt r.hv r.val)) = put (r'.time - first) ++ (put (r'.off - base) ++ (opt r'.hk r'.key ++ opt r'.hv r'.val)) := by
    simpa only [Rec.body, List.append_assoc] using e
  rw [e1, a2] at a1
  simp only [Prod.mk.injEq] at a1
  obtain ⟨t1, t2, -⟩ := a1
  have b1 := numR_put h.o (opt r.hk r.key ++ opt r.hv r.val)
  have b2 := numR_put h'.o (opt r'.hk r'.key ++ opt r'.hv r'.val)
  rw [← t2, b2] at b1
  simp only [Prod.mk.injEq] at b1
  obtain ⟨o1, o2, -⟩ := b1
  have c1 := optR_opt (r := opt r.hv r.val) h.k0 h.k
  have c2 := optR_opt (r := opt r'.hv r'.val) h'.k0 h'.k
  rw [← o2, c2] at c1
  simp only [Prod.mk.injEq] at c1
  obtain ⟨k1, k2, k3, -⟩ := c1
  have d1 := optR_opt (r := []) h.v0 h.v
  have d2 := optR_opt (r := []) h'.v0 h'.v
  rw [List.append_nil] at d1 d2
  rw [← k3, d2] at d1
  simp only [Prod.mk.injEq] at d1
  obtain ⟨v1, v2, -⟩ := d1
  obtain ⟨off, time, hk, key, hv, val⟩ := r
  obtain ⟨off', time', hk', key', hv', val'⟩ := r'
  simp only at t1 o1 k1 k2 v1 v2
  subst k1 k2 v1 v2
  have q1 : off = off' := by omega
  have q2 : time = time' := by omega
  rw [q1, q2]

theorem recsB_inj {first base : Int} : ∀ {l l' : List Rec}, l.length = l'.length → (∀ r ∈ l, r.wr first base ∧ (r.body first base).length ≤ 1000000) → (∀ r ∈ l', r.wr first base ∧ (r.body first base).length ≤ 1000000) → recsB l first base = recsB l' first base → l = l'
  | [], [], _, _, _, _ => rfl
  | [], _ :: _, e, _, _, _ => by cases e
  | _ :: _, [], e, _, _, _ => by cases e
  | r :: l, r' :: l', e, h, h', eb => by
    have e1 : lenB (r.body first base) ++ recsB l first base = lenB (r'.body first base) ++ recsB l' first base := eb
    have hr := h r List.mem_cons_self
    have hr' := h' r' List.mem_cons_self
    obtain ⟨q1, q2⟩ := lenB_inj e1 hr.2 hr'.2
    rw [body_inj hr.1 hr'.1 q1, recsB_inj (by simpa using e) (fun x hx => h x (List.mem_cons_of_mem _ hx)) (fun x hx => h' x (List.mem_cons_of_mem _ hx)) q2]

theorem enc_inj {b b' : Bat} (h : b.chk = 0) (h' : b'.chk = 0) (e : b.enc = b'.enc) : b = b' := by
  have a := enc_at h
  have a' := enc_at h'
  rw [e] at a
  obtain ⟨⟨a1, a2, a3, a4, a5, a6, a7⟩, a8⟩ := a
  obtain ⟨⟨c1, c2, c3, c4, c5, c6, c7⟩, c8⟩ := a'
  have e1 : b.base = b'.base := by rw [← a1, ← c1]
  have e2 : b.last = b'.last := by omega
  have e3 : b.first = b'.first := by rw [← a3, ← c3]
  have e4 : b.prod = b'.prod := by rw [← a4, ← c4]
  have e5 : b.epoch = b'.epoch := by rw [← a5, ← c5]
  have e6 : b.seq = b'.seq := by rw [← a6, ← c6]
  have e8 : recsB b.recs b.first b.base = recsB b'.recs b.first b.base := by rw [← a8, c8, e3, e1]
  have hf := (chk_fine h).1
  have hf' := (chk_fine h').1
  have er : b.recs = b'.recs := recsB_inj (by omega) (fun r hr => ⟨good_wr (p := b.enc) ⟨h, rfl⟩ hr, by have := body_len hf (hf.recs r hr); have := hf.recs r hr; unfold Rec.fine at this; omega⟩)
    (fun r hr => ⟨by rw [e1, e3]; exact good_wr (p := b'.enc) ⟨h', rfl⟩ hr, by rw [e1, e3]; have := body_len hf' (hf'.recs r hr); have := hf'.recs r hr; unfold Rec.fine at this; omega⟩) e8
  obtain ⟨_, _, _, _, _, _⟩ := b
  obtain ⟨_, _, _, _, _, _⟩ := b'
  simp only at e1 e2 e4 e5 e6 er
  subst e1 e2 e4 e5 e6 er
  rfl

theorem begins_len {b : Bat} {p : List UInt8} (h : b.begins p) : (b.enc.length : Int) = 12 + fxAt p 8 12 := by
  obtain ⟨t, ht⟩ := h.2
  have h2 := (chk_fine h.1).2.1
  have hlen := batE_len (b := b)
  rw [fxAt_nat (n := b.rest.length + 4) (k := 4) (pre := fixed b.base.toNat 8) (post := fixed (crcSum b.rest) 4 ++ (b.rest ++ t)) (by rw [← ht, Bat.enc]; simp only [List.append_assoc]) (fixed_len _ _) rfl (by omega) (by omega)]
  omega

theorem begins_unique {b b' : Bat} {p : List UInt8} (h : b.begins p) (h' : b'.begins p) : b = b' := by
  have l1 := begins_len h
  have l2 := begins_len h'
  refine enc_inj h.1 h'.1 ?_
  obtain ⟨t, ht⟩ := h.2
  obtain ⟨t', ht'⟩ := h'.2
  exact (List.append_inj (ht.trans ht'.symm) (by omega)).1

theorem first_is {b : Bat} {p : List UInt8} (h : b.begins p) : firstE p = 0 ∧ firstB p = b ∧ firstN p = b.enc.length := by
  have he : firstE p = 0 := by
    unfold firstE
    rw [if_pos ⟨b, h⟩]
  obtain ⟨h1, h2⟩ := first_yes he
  have hb := begins_unique h1 h
  exact ⟨he, hb, by rw [h2, hb]⟩

theorem dec_yes {p : List UInt8} (h : decE p = 0) : (decB p).chk = 0 ∧ (decB p).enc = p := by
  unfold decE at h
  split at h
  · rename_i hh
    obtain ⟨h1, h2⟩ := first_yes hh.1
    rw [decB, if_pos hh.2]
    refine ⟨h1.1, ?_⟩
    obtain ⟨t, ht⟩ := h1.2
    have := congrArg List.length ht
    rw [List.length_append] at this
    have ht0 : t = [] := List.eq_nil_of_length_eq_zero (by omega)
    rw [ht0, List.append_nil] at ht
    exact ht
  · cases h
theorem dec_is {b : Bat} (h : b.chk = 0) : decE b.enc = 0 ∧ decB b.enc = b := by
  obtain ⟨h1, h2, h3⟩ := first_is (b := b) (p := b.enc) ⟨h, List.prefix_rfl⟩
  exact ⟨by rw [decE, if_pos ⟨h1, h3⟩], by rw [decB, if_pos h3, h2]⟩
theorem dec_two {p : List UInt8} (h : decE p ≠ 0) : decE p = 2 := by
  unfold decE at h ⊢
  split
  · rename_i hh; rw [if_pos hh] at h; exact absurd rfl h
  · rfl
/-- Cut short, or longer, bytes are none's. -/
theorem dec_cut {b : Bat} (h : b.chk = 0) {k : Nat} (hk : k < b.enc.length) : decE (b.enc.take k) = 2 := by
  refine dec_two fun he => ?_
  obtain ⟨h1, h2⟩ := dec_yes he
  have hb : (decB (b.enc.take k)).begins b.enc := ⟨h1, by rw [h2]; exact List.take_prefix _ _⟩
  have := begins_unique hb ⟨h, List.prefix_rfl⟩
  rw [this] at h2
  have := congrArg List.length h2
  rw [List.length_take] at this
  omega
theorem dec_more {b : Bat} (h : b.chk = 0) {t : List UInt8} (ht : t ≠ []) : decE (b.enc ++ t) = 2 := by
  refine dec_two fun he => ?_
  obtain ⟨h1, h2⟩ := dec_yes he
  have hb : (decB (b.enc ++ t)).begins (b.enc ++ t) := ⟨h1, by rw [h2]; exact List.prefix_rfl⟩
  have := begins_unique hb ⟨h, List.prefix_append _ _⟩
  rw [this] at h2
  exact ht (by simpa using h2)

/-! ## Records taken away -/

def kept : List Rec → List Bool → List Rec
  | r :: l, k :: ks => if k then r :: kept l ks else kept l ks
  | _, _ => []

theorem kept_sub : ∀ (l : List Rec) (ks : List Bool), (kept l ks).Sublist l
  | [], _ => by simp [kept]
  | r :: l, [] => by simp [kept]
  | r :: l, k :: ks => by
    unfold kept
    cases k with
    | true => exact (kept_sub l ks).cons_cons r
    | false => exact (kept_sub l ks).cons r
theorem kept_take : ∀ {l : List Rec} {ks : List Bool} {i : Nat} {x : Rec}, l[i]? = some x → kept (l.take (i + 1)) ks = kept (l.take i) ks ++ (if ks[i]? = some true then [x] else [])
  | [], _, _, _, h => by simp at h
  | r :: l, [], i, x, h => by cases i <;> simp [kept]
  | r :: l, k :: ks, 0, x, h => by
    simp at h
    subst h
    cases k <;> simp [kept]
  | r :: l, k :: ks, i + 1, x, h => by
    simp only [List.getElem?_cons_succ] at h ⊢
    have := kept_take (ks := ks) h
    simp only [List.take_succ_cons, kept]
    cases k <;> simp [this]

theorem recsE_sub {b : Bat} : ∀ {l m : List Rec} {prev prev' : Int}, m.Sublist l → prev' ≤ prev → recsE b l prev = 0 → recsE b m prev' = 0
  | _, _, _, _, .slnil, _, _ => rfl
  | r :: l, m, prev, prev', .cons _ h, hp, he => by
    unfold recsE at he
    by_cases h0 : recE r b.base b.last prev = 0
    · rw [if_neg (by simp [h0])] at he
      have := (recE_fine h0).2.1
      exact recsE_sub h (by omega) he
    · rw [if_pos h0] at he; exact absurd he h0
  | r :: l, _ :: m, prev, prev', .cons_cons _ h, hp, he => by
    unfold recsE at he ⊢
    by_cases h0 : recE r b.base b.last prev = 0
    · rw [if_neg (by simp [h0])] at he
      have e1 : recE r b.base b.last prev' = 0 := by
        by_cases h1 : RecBad r b.base b.last prev
        · rw [recE_bad h1] at h0; omega
        · by_cases h2 : RecBig r
          · rw [recE_big h1 h2] at h0; omega
          · refine recE_ok ?_ h2
            unfold RecBad at h1 ⊢
            rintro (((((h | h) | h) | h) | h) | h)
            · exact h1 (.inl (.inl (.inl (.inl (.inl h)))))
            · exact h1 (.inl (.inl (.inl (.inl (.inr (by omega))))))
            · exact h1 (.inl (.inl (.inl (.inr h))))
            · exact h1 (.inl (.inl (.inr h)))
            · exact h1 (.inl (.inr h))
            · exact h1 (.inr h)
      rw [if_neg (by simp [e1])]
      exact recsE_sub h (Int.le_refl _) he
    · rw [if_pos h0] at he; exact absurd he h0
theorem recsE_congr {b c : Bat} (h1 : c.base = b.base) (h2 : c.last = b.last) : ∀ (l : List Rec) (prev : Int), recsE c l prev = recsE b l prev
  | [], _ => rfl
  | r :: l, prev => by
    unfold recsE
    rw [h1, h2, recsE_congr h1 h2 l r.off]

theorem put_pos (n : Int) : 1 ≤ (put n).length := by
  unfold put
  rw [putU]
  split <;> simp
theorem put_len8 {n : Int} (h : -1125899906842624 ≤ n) (h' : n ≤ 1125899906842624) : (put n).length ≤ 8 := by
  refine putU_len 7 (zig n) ?_
  have : (128 : Nat) ^ (7 + 1) = 72057594037927936 := by decide
  rw [this]
  unfold zig
  split <;> omega
theorem put_len2 {n : Int} (h : 0 ≤ n) (h' : n ≤ 8000) : (put n).length ≤ 2 := by
  refine putU_len 1 (zig n) ?_
  have : (128 : Nat) ^ (1 + 1) = 16384 := by decide
  rw [this]
  unfold zig
  split <;> omega

/-- How much longer a record may be, written of another first time. -/
theorem lenB_more {r : Rec} {f f' base : Int} (h1 : -1125899906842624 ≤ r.time - f') (h2 : r.time - f' ≤ 1125899906842624) (hl : (r.body f' base).length ≤ 8000) : (lenB (r.body f' base)).length ≤ (lenB (r.body f base)).length + 9 := by
  have a1 := put_len8 h1 h2
  have a2 := put_pos (r.time - f)
  have a3 := put_len2 (n := ((r.body f' base).length : Int)) (by omega) (by omega)
  have a4 := put_pos ((r.body f base).length : Int)
  have b : (r.body f' base).length ≤ (r.body f base).length + 7 := by
    simp only [Rec.body, List.length_append]
    omega
  simp only [lenB, List.length_append]
  omega
theorem recsB_more {f f' base : Int} : ∀ {l m : List Rec}, m.Sublist l → (∀ r ∈ m, -1125899906842624 ≤ r.time - f' ∧ r.time - f' ≤ 1125899906842624 ∧ (r.body f' base).length ≤ 8000) → (recsB m f' base).length ≤ (recsB l f base).length + 9 * l.length
  | _, _, .slnil, _ => by simp [recsB]
  | r :: l, m, .cons _ h, hm => by
    have := recsB_more (f := f) h hm
    have e : recsB (r :: l) f base = lenB (r.body f base) ++ recsB l f base := rfl
    rw [e, List.length_append, List.length_cons]
    omega
  | r :: l, _ :: m, .cons_cons _ h, hm => by
    have := recsB_more (f := f) h fun x hx => hm x (List.mem_cons_of_mem _ hx)
    have e : recsB (r :: l) f base = lenB (r.body f base) ++ recsB l f base := rfl
    have e' : recsB (r :: m) f' base = lenB (r.body f' base) ++ recsB m f' base := rfl
    obtain ⟨q1, q2, q3⟩ := hm r List.mem_cons_self
    have := lenB_more (f := f) q1 q2 q3
    rw [e, e', List.length_append, List.length_append, List.length_cons]
    omega

theorem wtR_sub {l m : List Rec} (h : m.Sublist l) : wtR m ≤ wtR l := by
  induction h with
  | slnil => exact Nat.le_refl _
  | cons r h ih => simp only [wtR, List.map_cons, List.sum_cons] at ih ⊢; omega
  | cons_cons r h ih => simp only [wtR, List.map_cons, List.sum_cons] at ih ⊢; omega

theorem recsB_wt {b : Bat} (hb : b.fine) : ∀ l : List Rec, (∀ r ∈ l, r.fine b) → (recsB l b.first b.base).length ≤ wtR l + 50 * l.length
  | [], _ => by simp [recsB]
  | r :: l, hl => by
    have ih := recsB_wt hb l fun x hx => hl x (List.mem_cons_of_mem _ hx)
    have e : recsB (r :: l) b.first b.base = lenB (r.body b.first b.base) ++ recsB l b.first b.base := rfl
    have h1 := body_len hb (hl r List.mem_cons_self)
    have h2 := hl r List.mem_cons_self
    unfold Rec.fine at h2
    have h3 := put_len2 (n := ((r.body b.first b.base).length : Int)) (by omega) (by omega)
    have h4 : (lenB (r.body b.first b.base)).length = (put ((r.body b.first b.base).length : Int)).length + (r.body b.first b.base).length := by rw [lenB, List.length_append]
    have h5 : wtR (r :: l) = r.wt + wtR l := rfl
    have h6 : r.wt = 1 + r.key.length + r.val.length := rfl
    rw [e, List.length_append, List.length_cons]
    omega

/-- A batch of which records are gone may be. -/
theorem chk_sub {b c : Bat} (h : b.chk = 0) (hw : wtR b.recs ≤ 5000) (e1 : c.base = b.base) (e2 : c.last = b.last) (e3 : c.prod = b.prod) (e4 : c.epoch = b.epoch) (e5 : c.seq = b.seq) (hs : c.recs.Sublist b.recs) : c.chk = 0 ∧ c.enc.length ≤ b.enc.length + 9 * b.recs.length := by
  obtain ⟨hf, hl, hr⟩ := chk_fine h
  have hh : ¬ HeadBad c := by
    have := hf.head
    unfold HeadBad at this ⊢
    rw [e1, e2, e3, e4, e5]
    exact this
  have hn := hs.length_le
  have hf2 := hf.few
  have hr2 : recsE c c.recs (-1) = 0 := by
    rw [recsE_congr e1 e2]
    exact recsE_sub hs (Int.le_refl _) hr
  have hfc : c.fine := fine_of hh (by omega) hr2
  have hw2 := wtR_sub hs
  have hb := recsB_wt hfc c.recs hfc.recs
  have hlen : c.enc.length = 50 + (recsB c.recs c.first c.base).length := by
    rw [batE_len, Bat.rest, List.length_append, head_len]; omega
  have hlenb : b.enc.length = 50 + (recsB b.recs b.first b.base).length := by
    rw [batE_len, Bat.rest, List.length_append, head_len]; omega
  have hm := recsB_more (f := b.first) (f' := c.first) (base := c.base) hs fun r hr => by
    have h1 := hfc.recs r hr
    have h2 := body_len hfc h1
    have h3 := first_time hfc
    unfold Rec.fine at h1
    omega
  rw [e1] at hm
  rw [e1] at hlen hb
  refine ⟨chk_ok hh (by omega) hr2 (by rw [hlen]; omega), by rw [hlen, hlenb]; omega⟩
end Go.Proofs.Ythclmkhkchbpiaa

namespace Go.Proofs.Ythclmkhkchbpiaa
set_option maxRecDepth 100000
set_option maxHeartbeats 80000000
open Go.Sym

theorem first_len {q : List UInt8} (h : firstE q = 0) : 50 ≤ firstN q ∧ firstN q ≤ q.length ∧ firstN q = (firstB q).enc.length := by
  obtain ⟨h1, h2⟩ := first_yes h
  obtain ⟨t, ht⟩ := h1.2
  have h3 : (firstB q).enc.length = 50 + (recsB (firstB q).recs (firstB q).first (firstB q).base).length := by
    rw [batE_len, Bat.rest, List.length_append, head_len]; omega
  have h4 := congrArg List.length ht
  rw [List.length_append] at h4
  omega

/-- All whole batches from the beginning on, with rising offsets. -/
noncomputable def allB (q : List UInt8) (last : Int) : List Bat :=
  if h : firstE q = 0 ∧ last < (firstB q).base then firstB q :: allB (q.drop (firstN q)) (firstB q).last else []
termination_by q.length
decreasing_by
  have := first_len h.1
  rw [List.length_drop]
  omega

theorem allB_yes {q : List UInt8} {last : Int} (h : firstE q = 0) (k : last < (firstB q).base) : allB q last = firstB q :: allB (q.drop (firstN q)) (firstB q).last := by
  rw [allB, dif_pos ⟨h, k⟩]
theorem allB_no {q : List UInt8} {last : Int} (h : ¬ (firstE q = 0 ∧ last < (firstB q).base)) : allB q last = [] := by
  rw [allB, dif_neg h]
theorem first_nil : firstE [] = 2 := by
  by_cases h : firstE [] = 0
  · have := first_len h
    simp at this
    omega
  · exact (first_no h).1

/-- How many bytes batches are. -/
noncomputable def encN (l : List Bat) : Nat := (l.map fun b => b.enc.length).sum

theorem encN_all : ∀ (n : Nat) (q : List UInt8) (last : Int), q.length ≤ n → encN (allB q last) ≤ q.length ∧ 50 * (allB q last).length ≤ q.length := by
  intro n
  induction n with
  | zero =>
    intro q last hn
    have : q = [] := List.eq_nil_of_length_eq_zero (by omega)
    subst this
    rw [allB_no (by rw [first_nil]; intro h; cases h.1)]
    simp [encN]
  | succ n ih =>
    intro q last hn
    by_cases h : firstE q = 0 ∧ last < (firstB q).base
    · obtain ⟨h1, h2, h3⟩ := first_len h.1
      rw [allB_yes h.1 h.2]
      have := ih (q.drop (firstN q)) (firstB q).last (by rw [List.length_drop]; omega)
      rw [List.length_drop] at this
      simp only [encN, List.map_cons, List.sum_cons, List.length_cons] at this ⊢
      omega
    · rw [allB_no h]
      simp [encN]

def batsL (l : List Bat) : List AV := l.map Bat.av
abbrev batsV (l : List Bat) : AV := .sl .none 6 (batsL l)
theorem ClL.bats (l : List Bat) : ClL (batsL l) := ClL.map Cl.bat l
theorem Cl.batsV (l : List Bat) : Cl (batsV l) := Cl.sl (ClL.bats l)
theorem Cl.intsV (l : List Int) : Cl (.sl .none 0 (ints l)) := Cl.sl (fun ρ => ren_ints ρ l)

theorem batAll {p : List UInt8} : CallOK Try.prog 90 [bs p] [] 0 (Out (.fn 108 [.ptr 0 0]) [(0, .cells [bs p])] 1) := by
  refine callOK Try.call90 Try.func90 Try.ntmps90 rfl ?_
  conv => arg 4; whnf
  exact ⟨rfl, rfl, rfl⟩

theorem bats_length (l : List Bat) : (batsL l).length = l.length := by simp [batsL]
theorem ints_length (l : List Int) : (ints l).length = l.length := by simp [ints]

structure WkI (p : List UInt8) (most : Nat) where
  at_ : Nat
  last : Int
  l : List Bat
  ps : List Int
  s : Nat
  hat : at_ ≤ p.length
  hps : ps.length = l.length
  hm : l.length ≤ most
  h : allB p (-1) = l ++ allB (p.drop at_) last

theorem lawFound {p : List UInt8} {most : Nat} (hl : p.length ≤ 100000000) (hm : most ≤ 1000000) : CallOK Try.prog 54 [bs p, .int .i64 most] [] 0
    (fun a h m => ∃ ps : List Int, True ∧ Out (.tup [.sl .none 0 (ints ps), batsV ((allB p (-1)).take most)]) [] 0 a h m) := by
  refine CallOK.fitE (by decide) ?_
  refine callOK Try.call54 Try.func54 Try.ntmps54 rfl ?_
  conv => arg 4; whnf
  refine holds_out [] (batAll (p := p)) rfl trivial (ClL.cons (Cl.bs p) ClL.nil _).symm ?_
  conv => arg 4; whnf
  simp only [renL_u8s]
  refine holds_pre (args' := [.yld 4, .ptr 3 0]) (h' := (4, .loop _ _ _ _ _ _) :: (3, .cells [bs p]) :: (2, .cells [.sl (.tok 6 0) 6 (batsL [])]) :: (1, .cells [.sl (.tok 5 0) 0 (ints [])]) :: (0, .cells [.int .i64 most]) :: (6, .tip 0) :: [(5, .tip 0)]) (nx' := 7)
    ((Gh.token _ _ _ _).trans ((Gh.token _ _ _ _).trans (Gh.le (fun _ => Le.refl _ _) (HeapLe.le ⟨⟨_, rfl, LeO.refl _ _⟩, ⟨_, rfl, LeO.refl _ _⟩, ⟨_, rfl, LeL.cons (Le.nilsTok rfl) (LeL.nil _)⟩, ⟨_, rfl, LeL.cons (Le.nilsTok rfl) (LeL.nil _)⟩, ⟨_, rfl, LeO.refl _ _⟩, ⟨_, rfl, rfl⟩, ⟨_, rfl, rfl⟩, trivial⟩)))) rfl ?_
  refine callOK Try.call108 Try.func108 Try.ntmps108 rfl ?_
  conv => arg 4; whnf
  refine tri_loopG (ι := WkI p most) (fun a => ⟨[(4, .int .i64 a.last), (3, .int .i64 a.at_), (0, .yld 4), (1, .ptr 3 0)], [(4, loopOf Try.f54 0 [(7, .ptr 2 0), (6, .ptr 1 0), (3, .ptr 0 0)] 32 .ready), (3, .cells [bs p]), (2, .cells [.sl (.tok 6 a.s) 6 (batsL a.l)]), (1, .cells [.sl (.tok 5 a.s) 0 (ints a.ps)]), (0, .cells [.int .i64 most]), (6, .tip a.s), (5, .tip a.s)], 7, 40⟩) (fun a => p.length - a.at_) ⟨0, -1, [], [], 0, Nat.zero_le _, rfl, Nat.zero_le _, rfl⟩ ?_ ?_
  · exact WkG.of rfl rfl ⟨Le.refl _ _, Le.refl _ _, Le.refl _ _, Le.refl _ _, trivial⟩ ⟨⟨_, rfl, LeO.loop ⟨Le.refl _ _, Le.refl _ _, Le.refl _ _, trivial⟩ rfl rfl rfl⟩, ⟨_, rfl, LeO.refl _ _⟩, ⟨_, rfl, LeO.refl _ _⟩, ⟨_, rfl, LeO.refl _ _⟩, ⟨_, rfl, LeO.refl _ _⟩, ⟨_, rfl, LeO.refl _ _⟩, ⟨_, rfl, LeO.refl _ _⟩, trivial⟩ ⟨rfl, rfl, rfl, rfl, trivial⟩ ⟨⟨by decide, rfl⟩, ⟨by decide, ClO.cells (by (repeat' (first | with_reducible assumption | exact ClL.nil | exact Cl.int _ _ | exact Cl.bool _ | exact Cl.bl _ | exact Cl.bs _ | exact Cl.str _ | exact Cl.nils | exact Cl.nilp | exact Cl.rec _ | exact Cl.bat _ | exact Cl.recsV _ | exact Cl.strsV _ | exact Cl.intsV _ | exact Cl.req _ | exact Cl.rsp _ | exact Cl.reqA _ | exact Cl.rspA _ | exact Cl.batsV _ | exact Cl.getB _ | exact Cl.encA _ | exact Cl.firstA _ | refine ClL.cons ?_ ?_ | refine Cl.tup ?_ | refine Cl.agg ?_ | exact ClO.RO _ _))) _⟩, ⟨by decide, rfl⟩, ⟨by decide, rfl⟩, ⟨by decide, rfl⟩, ⟨by decide, rfl⟩, ⟨by decide, rfl⟩, trivial⟩
  rintro ⟨at_, last, l, ps, s, hat, hps, hm, hh⟩
  dsimp only
  conv => arg 4; whnf
  refine ⟨fun hlt => ?_, fun hlt => ?_⟩
  · have hlt : at_ < p.length := by rw [u8s_length] at hlt; simp at hlt; omega
    (conv => arg 4; whnf); repeat (refine ⟨rfl, ?_⟩; conv => arg 4; whnf)
    (repeat (refine ⟨by first | (rw [u8s_length]; omega) | (simp only [u8s_length]; omega) | omega | decide, ?_⟩; conv => arg 4; whnf))
    refine holds_args (args' := [bs (p.drop at_)]) ⟨Le.of_eq (congrArg (AV.sl .none 0) (by rw [Int.toNat_natCast, u8s_drop])), trivial⟩ ?_
    refine call0 (batFirst' (p := p.drop at_) (by simp; omega)) (by (repeat' (first | with_reducible assumption | exact ClL.nil | exact Cl.int _ _ | exact Cl.bool _ | exact Cl.bl _ | exact Cl.bs _ | exact Cl.str _ | exact Cl.nils | exact Cl.nilp | exact Cl.rec _ | exact Cl.bat _ | exact Cl.recsV _ | exact Cl.strsV _ | exact Cl.intsV _ | exact Cl.req _ | exact Cl.rsp _ | exact Cl.reqA _ | exact Cl.rspA _ | exact Cl.batsV _ | exact Cl.getB _ | exact Cl.encA _ | exact Cl.firstA _ | refine ClL.cons ?_ ?_ | refine Cl.tup ?_ | refine Cl.agg ?_ | exact ClO.RO _ _))) (Cl.firstA _) ?_
    (conv => arg 4; whnf); repeat (refine ⟨rfl, ?_⟩; conv => arg 4; whnf)
    refine ⟨fun hb => ?_, fun hb => ?_⟩
    · simp only [Bool.cond_true_left, Bool.cond_false_right, Bool.or_eq_true, Bool.and_eq_true, Bool.not_eq_true', decide_eq_true_eq, beq_iff_eq, bne_iff_ne, u8s_length, Bool.not_eq_true, gt_iff_lt, ge_iff_le] at hb
      have hno : allB (p.drop at_) last = [] := allB_no (by omega)
      rw [hno, List.append_nil] at hh
      (conv => arg 4; whnf); repeat (refine ⟨rfl, ?_⟩; conv => arg 4; whnf)
      refine fin_exit ?_
      show holds _ _ _ _
      conv => arg 4; whnf
      refine ret_in ?_
      show holds _ _ _ _
      conv => arg 4; whnf
      refine ⟨ps, trivial, by decide, ?_, trivial, (Cl.tup (ClL.cons (Cl.intsV _) (ClL.cons (Cl.batsV _) ClL.nil)) : Cl _) _, trivial⟩
      rw [hh, List.take_of_length_le hm]
      (repeat' (first | with_reducible exact Le.refl _ _ | exact Le.bl | exact Le.lb | exact Le.nils | exact Le.nilsFull | exact Le.none | exact LeL.nil _ | refine LeL.cons ?_ ?_ | refine Le.tup ?_ | refine Le.agg ?_ | exact Le.refl _ _ | exact LeL.refl _ _))
    · rw [← Bool.not_eq_true] at hb; simp only [Bool.cond_true_left, Bool.cond_false_right, Bool.or_eq_true, Bool.and_eq_true, Bool.not_eq_true', decide_eq_true_eq, beq_iff_eq, bne_iff_ne, u8s_length, gt_iff_lt, ge_iff_le] at hb
      have hyes := allB_yes (q := p.drop at_) (last := last) (by omega) (by omega)
      have hf := first_len (q := p.drop at_) (by omega)
      (conv => arg 4; whnf); repeat (refine ⟨rfl, ?_⟩; conv => arg 4; whnf)
      refine round_in ?_
      conv => arg 4; whnf
      refine ⟨fun hq => ?_, fun hq => ?_⟩
      · have hq : l.length = most := by rw [bats_length] at hq; simp at hq; omega
        conv => arg 4; whnf
        refine ⟨fun _ => ?_, fun h => absurd h (by first | (simp; done) | (simp [u8s]; done))⟩
        conv => arg 4; whnf
        refine fin_exit ?_
        show holds _ _ _ _
        conv => arg 4; whnf
        refine ret_in ?_
        show holds _ _ _ _
        conv => arg 4; whnf
        refine ⟨ps, trivial, by decide, ?_, trivial, (Cl.tup (ClL.cons (Cl.intsV _) (ClL.cons (Cl.batsV _) ClL.nil)) : Cl _) _, trivial⟩
        rw [hh, ← hq, List.take_left' rfl]
        (repeat' (first | with_reducible exact Le.refl _ _ | exact Le.bl | exact Le.lb | exact Le.nils | exact Le.nilsFull | exact Le.none | exact LeL.nil _ | refine LeL.cons ?_ ?_ | refine Le.tup ?_ | refine Le.agg ?_ | exact Le.refl _ _ | exact LeL.refl _ _))
      · have hq : l.length < most := by rw [bats_length] at hq; simp at hq; omega
        conv => arg 4; whnf
        refine ⟨⟨rfl, sizeOk 8 rfl (by rw [List.length_append, ints_length]; simp only [List.length_cons, List.length_nil]; omega)⟩, ?_⟩
        conv => arg 4; whnf
        refine ⟨⟨rfl, sizeOk 64 rfl (by rw [List.length_append, bats_length]; simp only [List.length_cons, List.length_nil]; omega)⟩, ?_⟩
        conv => arg 4; whnf
        refine ⟨fun h => absurd h (by first | (simp; done) | (simp [u8s]; done)), fun _ => ?_⟩
        conv => arg 4; whnf
        refine ⟨⟨at_ + firstN (p.drop at_), (firstB (p.drop at_)).last, l ++ [firstB (p.drop at_)], ps ++ [(at_ : Int)], s + 1, ?_, by simp [hps], by simp; omega, by rw [hh, hyes, List.append_assoc, List.drop_drop]; rfl⟩, ?_, WkG.of rfl rfl ⟨Le.refl _ _, Le.of_eq ?_, Le.refl _ _, Le.refl _ _, trivial⟩ ⟨⟨_, rfl, LeO.loop ⟨Le.refl _ _, Le.refl _ _, Le.refl _ _, trivial⟩ rfl rfl rfl⟩, ⟨_, rfl, LeO.refl _ _⟩, ⟨_, rfl, LeL.cons (Le.of_eq ?_) (LeL.nil _)⟩, ⟨_, rfl, LeL.cons (Le.of_eq ?_) (LeL.nil _)⟩, ⟨_, rfl, LeO.refl _ _⟩, ⟨_, rfl, LeO.refl _ _⟩, ⟨_, rfl, LeO.refl _ _⟩, trivial⟩ ⟨rfl, rfl, rfl, rfl, trivial⟩ ⟨⟨by decide, rfl⟩, ⟨by decide, ClO.cells (by (repeat' (first | with_reducible assumption | exact ClL.nil | exact Cl.int _ _ | exact Cl.bool _ | exact Cl.bl _ | exact Cl.bs _ | exact Cl.str _ | exact Cl.nils | exact Cl.nilp | exact Cl.rec _ | exact Cl.bat _ | exact Cl.recsV _ | exact Cl.strsV _ | exact Cl.intsV _ | exact Cl.req _ | exact Cl.rsp _ | exact Cl.reqA _ | exact Cl.rspA _ | exact Cl.batsV _ | exact Cl.getB _ | exact Cl.encA _ | exact Cl.firstA _ | refine ClL.cons ?_ ?_ | refine Cl.tup ?_ | refine Cl.agg ?_ | exact ClO.RO _ _))) _⟩, ⟨by decide, ?_⟩, ⟨by decide, ?_⟩, ⟨by decide, rfl⟩, ⟨by decide, rfl⟩, ⟨by decide, rfl⟩, trivial⟩⟩
        · have := hf.2.1; rw [List.length_drop] at this; omega
        · show p.length - (at_ + firstN (p.drop at_)) < p.length - at_
          have := hf.2.1; rw [List.length_drop] at this; omega
        · have hw : IntKind.i64.wrap ((at_ : Int) + (firstN (p.drop at_) : Int)) = ((at_ + firstN (p.drop at_) : Nat) : Int) := by
            have := hf.2.1
            rw [List.length_drop] at this
            rw [IntKind.wrap_i64]; omega
          exact congrArg _ hw
        · simp [batsL, Bat.av]
        · simp [ints]
        · simp only [renO, renL, ren, ClL.bats _ _, renP, cut_lt (show 6 < 7 by decide)]
        · simp only [renO, renL, ren, ren_ints, renP, cut_lt (show 5 < 7 by decide)]
  · have hlt : at_ = p.length := by rw [u8s_length] at hlt; simp at hlt; omega
    have hno : allB (p.drop at_) last = [] := by rw [hlt, List.drop_length]; exact allB_no (by rw [first_nil]; intro h; cases h.1)
    rw [hno, List.append_nil] at hh
    conv => arg 4; whnf
    refine fin_exit ?_
    show holds _ _ _ _
    conv => arg 4; whnf
    refine ret_in ?_
    show holds _ _ _ _
    conv => arg 4; whnf
    refine ⟨ps, trivial, by decide, ?_, trivial, (Cl.tup (ClL.cons (Cl.intsV _) (ClL.cons (Cl.batsV _) ClL.nil)) : Cl _) _, trivial⟩
    rw [hh, List.take_of_length_le hm]
    (repeat' (first | with_reducible exact Le.refl _ _ | exact Le.bl | exact Le.lb | exact Le.nils | exact Le.nilsFull | exact Le.none | exact LeL.nil _ | refine LeL.cons ?_ ?_ | refine Le.tup ?_ | refine Le.agg ?_ | exact Le.refl _ _ | exact LeL.refl _ _))

theorem encN_snoc (l : List Bat) (b : Bat) : encN (l ++ [b]) = encN l + b.enc.length := by simp [encN]

structure GdI (p : List UInt8) where
  at_ : Nat
  last : Int
  l : List Bat
  hat : at_ ≤ p.length
  hn : encN l = at_
  h : allB p (-1) = l ++ allB (p.drop at_) last

theorem batGood {p : List UInt8} (hl : p.length ≤ 100000000) : CallOK Try.prog 56 [bs p] [] 0 (Out (.int .i64 (encN (allB p (-1)) : Nat)) [] 0) := by
  refine CallOK.fit (by decide) ?_
  refine callOK Try.call56 Try.func56 Try.ntmps56 rfl ?_
  conv => arg 4; whnf
  refine holds_out [] (batAll (p := p)) rfl trivial (ClL.cons (Cl.bs p) ClL.nil _).symm ?_
  conv => arg 4; whnf
  simp only [renL_u8s]
  refine callOK Try.call108 Try.func108 Try.ntmps108 rfl ?_
  conv => arg 4; whnf
  refine tri_loopG (ι := GdI p) (fun a => ⟨[(4, .int .i64 a.last), (3, .int .i64 a.at_), (0, .yld 2), (1, .ptr 1 0)], [(2, loopOf Try.f56 0 [(2, .ptr 0 0)] 14 .ready), (1, .cells [bs p]), (0, .cells [.int .i64 a.at_])], 3, 40⟩) (fun a => p.length - a.at_) ⟨0, -1, [], Nat.zero_le _, rfl, rfl⟩ ?_ ?_
  · exact WkG.of rfl rfl ⟨Le.refl _ _, Le.refl _ _, Le.refl _ _, Le.refl _ _, trivial⟩ ⟨⟨_, rfl, LeO.loop ⟨Le.refl _ _, trivial⟩ rfl rfl rfl⟩, ⟨_, rfl, LeO.refl _ _⟩, ⟨_, rfl, LeO.refl _ _⟩, trivial⟩ ⟨rfl, rfl, rfl, rfl, trivial⟩ ⟨⟨by decide, rfl⟩, ⟨by decide, ClO.cells (by (repeat' (first | with_reducible assumption | exact ClL.nil | exact Cl.int _ _ | exact Cl.bool _ | exact Cl.bl _ | exact Cl.bs _ | exact Cl.str _ | exact Cl.nils | exact Cl.nilp | exact Cl.rec _ | exact Cl.bat _ | exact Cl.recsV _ | exact Cl.strsV _ | exact Cl.intsV _ | exact Cl.req _ | exact Cl.rsp _ | exact Cl.reqA _ | exact Cl.rspA _ | exact Cl.batsV _ | exact Cl.getB _ | exact Cl.encA _ | exact Cl.firstA _ | refine ClL.cons ?_ ?_ | refine Cl.tup ?_ | refine Cl.agg ?_ | exact ClO.RO _ _))) _⟩, ⟨by decide, rfl⟩, trivial⟩
  rintro ⟨at_, last, l, hat, hn, hh⟩
  dsimp only
  conv => arg 4; whnf
  refine ⟨fun hlt => ?_, fun hlt => ?_⟩
  · have hlt : at_ < p.length := by rw [u8s_length] at hlt; simp at hlt; omega
    (conv => arg 4; whnf); repeat (refine ⟨rfl, ?_⟩; conv => arg 4; whnf)
    (repeat (refine ⟨by first | (rw [u8s_length]; omega) | (simp only [u8s_length]; omega) | omega | decide, ?_⟩; conv => arg 4; whnf))
    refine holds_args (args' := [bs (p.drop at_)]) ⟨Le.of_eq (congrArg (AV.sl .none 0) (by rw [Int.toNat_natCast, u8s_drop])), trivial⟩ ?_
    refine call0 (batFirst' (p := p.drop at_) (by simp; omega)) (by (repeat' (first | with_reducible assumption | exact ClL.nil | exact Cl.int _ _ | exact Cl.bool _ | exact Cl.bl _ | exact Cl.bs _ | exact Cl.str _ | exact Cl.nils | exact Cl.nilp | exact Cl.rec _ | exact Cl.bat _ | exact Cl.recsV _ | exact Cl.strsV _ | exact Cl.intsV _ | exact Cl.req _ | exact Cl.rsp _ | exact Cl.reqA _ | exact Cl.rspA _ | exact Cl.batsV _ | exact Cl.getB _ | exact Cl.encA _ | exact Cl.firstA _ | refine ClL.cons ?_ ?_ | refine Cl.tup ?_ | refine Cl.agg ?_ | exact ClO.RO _ _))) (Cl.firstA _) ?_
    (conv => arg 4; whnf); repeat (refine ⟨rfl, ?_⟩; conv => arg 4; whnf)
    refine ⟨fun hb => ?_, fun hb => ?_⟩
    · simp only [Bool.cond_true_left, Bool.cond_false_right, Bool.or_eq_true, Bool.and_eq_true, Bool.not_eq_true', decide_eq_true_eq, beq_iff_eq, bne_iff_ne, u8s_length, Bool.not_eq_true, gt_iff_lt, ge_iff_le] at hb
      have hno : allB (p.drop at_) last = [] := allB_no (by omega)
      rw [hno, List.append_nil] at hh
      (conv => arg 4; whnf); repeat (refine ⟨rfl, ?_⟩; conv => arg 4; whnf)
      refine fin_exit ?_
      show holds _ _ _ _
      conv => arg 4; whnf
      refine ret_in ?_
      show holds _ _ _ _
      conv => arg 4; whnf
      refine ⟨by decide, ?_, trivial, (by (repeat' (first | with_reducible assumption | exact ClL.nil | exact Cl.int _ _ | exact Cl.bool _ | exact Cl.bl _ | exact Cl.bs _ | exact Cl.str _ | exact Cl.nils | exact Cl.nilp | exact Cl.rec _ | exact Cl.bat _ | exact Cl.recsV _ | exact Cl.strsV _ | exact Cl.intsV _ | exact Cl.req _ | exact Cl.rsp _ | exact Cl.reqA _ | exact Cl.rspA _ | exact Cl.batsV _ | exact Cl.getB _ | exact Cl.encA _ | exact Cl.firstA _ | refine ClL.cons ?_ ?_ | refine Cl.tup ?_ | refine Cl.agg ?_ | exact ClO.RO _ _)) : Cl _) _, trivial⟩
      rw [hh, hn]
      (repeat' (first | with_reducible exact Le.refl _ _ | exact Le.bl | exact Le.lb | exact Le.nils | exact Le.nilsFull | exact Le.none | exact LeL.nil _ | refine LeL.cons ?_ ?_ | refine Le.tup ?_ | refine Le.agg ?_ | exact Le.refl _ _ | exact LeL.refl _ _))
    · rw [← Bool.not_eq_true] at hb; simp only [Bool.cond_true_left, Bool.cond_false_right, Bool.or_eq_true, Bool.and_eq_true, Bool.not_eq_true', decide_eq_true_eq, beq_iff_eq, bne_iff_ne, u8s_length, gt_iff_lt, ge_iff_le] at hb
      have hyes := allB_yes (q := p.drop at_) (last := last) (by omega) (by omega)
      have hf := first_len (q := p.drop at_) (by omega)
      have hc := first_yes (p := p.drop at_) (by omega)
      have hle := hf.2.1
      rw [List.length_drop] at hle
      have hw : IntKind.i64.wrap ((at_ : Int) + (firstN (p.drop at_) : Int)) = ((at_ + firstN (p.drop at_) : Nat) : Int) := by
        rw [IntKind.wrap_i64]; omega
      have ho : (firstB (p.drop at_)).out.length = firstN (p.drop at_) := by rw [out_yes hc.1.1, hc.2]
      (conv => arg 4; whnf); repeat (refine ⟨rfl, ?_⟩; conv => arg 4; whnf)
      refine round_in ?_
      conv => arg 4; whnf
      refine call0 (batSize (b := firstB (p.drop at_)) (by have := first_few (p.drop at_); omega)) (by (repeat' (first | with_reducible assumption | exact ClL.nil | exact Cl.int _ _ | exact Cl.bool _ | exact Cl.bl _ | exact Cl.bs _ | exact Cl.str _ | exact Cl.nils | exact Cl.nilp | exact Cl.rec _ | exact Cl.bat _ | exact Cl.recsV _ | exact Cl.strsV _ | exact Cl.intsV _ | exact Cl.req _ | exact Cl.rsp _ | exact Cl.reqA _ | exact Cl.rspA _ | exact Cl.batsV _ | exact Cl.getB _ | exact Cl.encA _ | exact Cl.firstA _ | refine ClL.cons ?_ ?_ | refine Cl.tup ?_ | refine Cl.agg ?_ | exact ClO.RO _ _))) (by (repeat' (first | with_reducible assumption | exact ClL.nil | exact Cl.int _ _ | exact Cl.bool _ | exact Cl.bl _ | exact Cl.bs _ | exact Cl.str _ | exact Cl.nils | exact Cl.nilp | exact Cl.rec _ | exact Cl.bat _ | exact Cl.recsV _ | exact Cl.strsV _ | exact Cl.intsV _ | exact Cl.req _ | exact Cl.rsp _ | exact Cl.reqA _ | exact Cl.rspA _ | exact Cl.batsV _ | exact Cl.getB _ | exact Cl.encA _ | exact Cl.firstA _ | refine ClL.cons ?_ ?_ | refine Cl.tup ?_ | refine Cl.agg ?_ | exact ClO.RO _ _))) ?_
      (conv => arg 4; whnf); repeat (refine ⟨rfl, ?_⟩; conv => arg 4; whnf)
      refine ⟨fun h => absurd h (by first | (simp; done) | (simp [u8s]; done)), fun _ => ?_⟩
      conv => arg 4; whnf
      refine ⟨⟨at_ + firstN (p.drop at_), (firstB (p.drop at_)).last, l ++ [firstB (p.drop at_)], by omega, by rw [encN_snoc, hn, hf.2.2], by rw [hh, hyes, List.append_assoc, List.drop_drop]; rfl⟩, by show p.length - (at_ + firstN (p.drop at_)) < p.length - at_; omega, WkG.of rfl rfl ⟨Le.refl _ _, Le.of_eq (congrArg _ hw), Le.refl _ _, Le.refl _ _, trivial⟩ ⟨⟨_, rfl, LeO.loop ⟨Le.refl _ _, trivial⟩ rfl rfl rfl⟩, ⟨_, rfl, LeO.refl _ _⟩, ⟨_, rfl, LeL.cons (Le.of_eq (congrArg _ ?_)) (LeL.nil _)⟩, trivial⟩ ⟨rfl, rfl, rfl, rfl, trivial⟩ ⟨⟨by decide, rfl⟩, ⟨by decide, ClO.cells (by (repeat' (first | with_reducible assumption | exact ClL.nil | exact Cl.int _ _ | exact Cl.bool _ | exact Cl.bl _ | exact Cl.bs _ | exact Cl.str _ | exact Cl.nils | exact Cl.nilp | exact Cl.rec _ | exact Cl.bat _ | exact Cl.recsV _ | exact Cl.strsV _ | exact Cl.intsV _ | exact Cl.req _ | exact Cl.rsp _ | exact Cl.reqA _ | exact Cl.rspA _ | exact Cl.batsV _ | exact Cl.getB _ | exact Cl.encA _ | exact Cl.firstA _ | refine ClL.cons ?_ ?_ | refine Cl.tup ?_ | refine Cl.agg ?_ | exact ClO.RO _ _))) _⟩, ⟨by decide, rfl⟩, trivial⟩⟩
      rw [ho]
      exact hw
  · have hlt : at_ = p.length := by rw [u8s_length] at hlt; simp at hlt; omega
    have hno : allB (p.drop at_) last = [] := by rw [hlt, List.drop_length]; exact allB_no (by rw [first_nil]; intro h; cases h.1)
    rw [hno, List.append_nil] at hh
    conv => arg 4; whnf
    refine fin_exit ?_
    show holds _ _ _ _
    conv => arg 4; whnf
    refine ret_in ?_
    show holds _ _ _ _
    conv => arg 4; whnf
    refine ⟨by decide, ?_, trivial, (by (repeat' (first | with_reducible assumption | exact ClL.nil | exact Cl.int _ _ | exact Cl.bool _ | exact Cl.bl _ | exact Cl.bs _ | exact Cl.str _ | exact Cl.nils | exact Cl.nilp | exact Cl.rec _ | exact Cl.bat _ | exact Cl.recsV _ | exact Cl.strsV _ | exact Cl.intsV _ | exact Cl.req _ | exact Cl.rsp _ | exact Cl.reqA _ | exact Cl.rspA _ | exact Cl.batsV _ | exact Cl.getB _ | exact Cl.encA _ | exact Cl.firstA _ | refine ClL.cons ?_ ?_ | refine Cl.tup ?_ | refine Cl.agg ?_ | exact ClO.RO _ _)) : Cl _) _, trivial⟩
    rw [hh, hn]
    (repeat' (first | with_reducible exact Le.refl _ _ | exact Le.bl | exact Le.lb | exact Le.nils | exact Le.nilsFull | exact Le.none | exact LeL.nil _ | refine LeL.cons ?_ ?_ | refine Le.tup ?_ | refine Le.agg ?_ | exact Le.refl _ _ | exact LeL.refl _ _))
end Go.Proofs.Ythclmkhkchbpiaa

namespace Go.Proofs.Ythclmkhkchbpiaa
set_option maxRecDepth 100000
set_option maxHeartbeats 80000000
open Go.Sym

theorem bats_get {l : List Bat} {i : Nat} {x : Bat} (h : l[i]? = some x) : (batsL l)[((i : Nat) : Int).toNat]? = some x.av := by simp [batsL, h]

structure EqB (a b : List Bat) where
  i : Nat
  hi : i ≤ a.length
  h : a.take i = b.take i

theorem eqb_step {a b : List Bat} {i : Nat} {x y : Bat} (hx : a[i]? = some x) (hy : b[i]? = some y) (h : a.take i = b.take i) (e : x = y) : a.take (i + 1) = b.take (i + 1) := by
  rw [List.take_add_one, List.take_add_one, hx, hy, h, e]
theorem neb_step {a b : List Bat} {i : Nat} {x y : Bat} (hx : a[i]? = some x) (hy : b[i]? = some y) (e : x ≠ y) : a ≠ b := by
  intro h; subst h; rw [hx] at hy; cases hy; exact e rfl

theorem refSameBats {a b : List Bat} (ha : a.length ≤ 1000000) (hra : ∀ x ∈ a, x.recs.length ≤ 1000000) : CallOK Try.prog 55 [batsV a, batsV b] [] 0 (Out (.bool (decide (a = b))) [] 0) := by
  refine CallOK.fit (by decide) ?_
  refine callOK Try.call55 Try.func55 Try.ntmps55 rfl ?_
  conv => arg 4; whnf
  refine ⟨fun h => ?_, fun h => ?_⟩
  · have h : a.length ≠ b.length := by rw [bats_length, bats_length] at h; simp at h; omega
    (conv => arg 4; whnf); repeat (refine ⟨rfl, ?_⟩; conv => arg 4; whnf)
    refine ⟨by decide, Le.blOf ?_, trivial, (Cl.bool _) _, trivial⟩
    exact (decide_eq_false (fun e => h (by rw [e]))).symm
  · have h : a.length = b.length := by rw [bats_length, bats_length] at h; simp at h; omega
    have cla : ∀ ρ, ren ρ (batsV a) = batsV a := Cl.sl (ClL.bats _)
    have clb : ∀ ρ, ren ρ (batsV b) = batsV b := Cl.sl (ClL.bats _)
    (conv => arg 4; whnf); repeat (refine ⟨rfl, ?_⟩; conv => arg 4; whnf)
    refine tri_loopG (ι := EqB a b) (fun x => ⟨[(5, .int .i64 x.i), (0, batsV a), (1, batsV b)], [], 0, 27⟩) (fun x => a.length - x.i) ⟨0, Nat.zero_le _, rfl⟩ (WkG.of rfl rfl ⟨Le.refl _ _, Le.refl _ _, Le.refl _ _, trivial⟩ trivial ⟨rfl, cla _, clb _, trivial⟩ trivial) ?_
    rintro ⟨i, hi, ht⟩
    dsimp only
    conv => arg 4; whnf
    refine ⟨fun h1 => ?_, fun h1 => ?_⟩
    · have hi' : i < a.length := by rw [bats_length] at h1; simp at h1; omega
      obtain ⟨x, hx⟩ : ∃ x, a[i]? = some x := ⟨_, List.getElem?_eq_getElem hi'⟩
      obtain ⟨y, hy⟩ : ∃ y, b[i]? = some y := ⟨_, List.getElem?_eq_getElem (by omega)⟩
      conv => arg 4; whnf
      refine ⟨x.av, ⟨by omega, bats_get hx⟩, ?_⟩
      (conv => arg 4; whnf); repeat (refine ⟨rfl, ?_⟩; conv => arg 4; whnf)
      refine ⟨y.av, ⟨by omega, bats_get hy⟩, ?_⟩
      (conv => arg 4; whnf); repeat (refine ⟨rfl, ?_⟩; conv => arg 4; whnf)
      refine call0 (refSame (a := x) (b := y) (hra x (List.mem_of_getElem? hx))) (ClL.cons (Cl.bat x) (ClL.cons (Cl.bat y) ClL.nil)) (Cl.bool _) ?_
      (conv => arg 4; whnf); repeat (refine ⟨rfl, ?_⟩; conv => arg 4; whnf)
      refine ⟨fun h2 => ?_, fun h2 => ?_⟩
      · have h2 : x ≠ y := by simpa using h2
        (conv => arg 4; whnf); repeat (refine ⟨rfl, ?_⟩; conv => arg 4; whnf)
        refine ⟨by decide, Le.blOf ?_, trivial, (Cl.bool _) _, trivial⟩
        exact (decide_eq_false (neb_step hx hy h2)).symm
      · have h2 : x = y := by simpa using h2
        (conv => arg 4; whnf); repeat (refine ⟨rfl, ?_⟩; conv => arg 4; whnf)
        exact ⟨⟨i + 1, hi', eqb_step hx hy ht h2⟩, by show a.length - (i + 1) < a.length - i; omega, WkG.of rfl rfl ⟨Le.of_eq (succ_int (by omega)), Le.refl _ _, Le.refl _ _, trivial⟩ trivial ⟨rfl, cla _, clb _, trivial⟩ trivial⟩
    · have hi' : i = a.length := by rw [bats_length] at h1; simp at h1; omega
      have he : a = b := by rw [hi', List.take_length] at ht; rw [ht, h, List.take_length]
      conv => arg 4; whnf
      refine fin_exit ?_
      show holds _ _ _ _
      conv => arg 4; whnf
      refine ⟨by decide, Le.blOf ?_, trivial, (Cl.bool _) _, trivial⟩
      exact (decide_eq_true he).symm

/-- Batches that may be, with rising offsets. -/
def Rises : List Bat → Int → Prop
  | [], _ => True
  | b :: l, last => b.chk = 0 ∧ last < b.base ∧ Rises l b.last
def lastOf : List Bat → Int → Int
  | [], last => last
  | b :: l, _ => lastOf l b.last
noncomputable def encs5 (l : List Bat) : List UInt8 := (l.map Bat.enc).flatten

theorem encs5_length (l : List Bat) : (encs5 l).length = encN l := by
  induction l with
  | nil => rfl
  | cons b l ih =>
    simp only [encs5, encN, List.map_cons, List.flatten_cons, List.length_append, List.sum_cons] at ih ⊢
    rw [ih]
theorem encs5_snoc (l : List Bat) (b : Bat) : encs5 (l ++ [b]) = encs5 l ++ b.enc := by simp [encs5]
theorem rises_snoc : ∀ {l : List Bat} {b : Bat} {last : Int}, Rises l last → b.chk = 0 → lastOf l last < b.base → Rises (l ++ [b]) last
  | [], _, _, _, h1, h2 => ⟨h1, h2, trivial⟩
  | _ :: _, _, _, ⟨h0, h0', h⟩, h1, h2 => ⟨h0, h0', rises_snoc h h1 h2⟩
theorem lastOf_snoc : ∀ (l : List Bat) (b : Bat) (last : Int), lastOf (l ++ [b]) last = b.last
  | [], _, _ => rfl
  | _ :: l, b, _ => lastOf_snoc l b _
theorem rises_chk : ∀ {l : List Bat} {last : Int}, Rises l last → ∀ b ∈ l, b.chk = 0
  | _ :: _, _, ⟨h, _, hl⟩, b, hb => by
    rcases List.mem_cons.1 hb with rfl | hb
    · exact h
    · exact rises_chk hl b hb

/-- Whole batches are walked, then what is behind them. -/
theorem allB_app : ∀ {l : List Bat} {last : Int} (t : List UInt8), Rises l last → allB (encs5 l ++ t) last = l ++ allB t (lastOf l last)
  | [], last, t, _ => rfl
  | b :: l, last, t, ⟨h1, h2, h3⟩ => by
    have hb : b.begins (encs5 (b :: l) ++ t) := ⟨h1, ⟨encs5 l ++ t, by simp [encs5]⟩⟩
    obtain ⟨e1, e2, e3⟩ := first_is hb
    rw [allB_yes e1 (by rw [e2]; exact h2), e2, e3]
    have : (encs5 (b :: l) ++ t).drop b.enc.length = encs5 l ++ t := by
      have : encs5 (b :: l) ++ t = b.enc ++ (encs5 l ++ t) := by simp [encs5]
      rw [this, List.drop_left]
    rw [this, allB_app t h3]
    rfl
/-- A piece of a batch begins none. -/
theorem first_cut {b : Bat} (h : b.chk = 0) {k : Nat} (hk : k < b.enc.length) : firstE (b.enc.take k) ≠ 0 := by
  intro he
  obtain ⟨h1, h2⟩ := first_yes he
  have hl := first_len he
  rw [List.length_take] at hl
  obtain ⟨t, ht⟩ := h1.2
  have hb : (firstB (b.enc.take k)).begins b.enc := ⟨h1.1, List.IsPrefix.trans ⟨t, ht⟩ (List.take_prefix _ _)⟩
  have := begins_unique hb ⟨h, List.prefix_rfl⟩
  rw [this] at hl
  omega

structure BsI (l : List Bat) where
  i : Nat
  n : Int
  hi : i ≤ l.length
  hn : 0 ≤ n ∧ n ≤ 1099511627776

theorem alikeBatches {l : List Bat} {limit : Int} (hl : l.length ≤ 1000000000000000) (hr : ∀ b ∈ l, b.recs.length ≤ 1000000000000000) : CallOK Try.prog 53 [batsV l, .int .i64 limit] [] 0 (fun a h m => ∃ n : Int, True ∧ Out (.int .i64 n) [] 0 a h m) := by
  refine CallOK.fitE (by decide) ?_
  refine callOK Try.call53 Try.func53 Try.ntmps53 rfl ?_
  conv => arg 4; whnf
  refine tri_loopG (ι := BsI l) (fun a => ⟨[(6, .int .i64 a.i), (5, .int .i64 a.n), (0, batsV l), (1, .int .i64 limit)], [], 0, 27⟩) (fun a => l.length - a.i) ⟨0, 0, Nat.zero_le _, by omega⟩ (WkG.of rfl rfl ⟨Le.refl _ _, Le.refl _ _, Le.refl _ _, Le.refl _ _, trivial⟩ trivial ⟨rfl, rfl, Cl.batsV _ _, rfl, trivial⟩ trivial) ?_
  rintro ⟨i, n, hi, hn⟩
  dsimp only
  conv => arg 4; whnf
  refine ⟨fun h => ?_, fun h => ?_⟩
  · have h : i < l.length := by
      rw [bats_length] at h
      simp only [Bool.cond_true_left, Bool.cond_false_right, Bool.or_eq_true, Bool.and_eq_true, Bool.not_eq_true', decide_eq_true_eq, beq_iff_eq, bne_iff_ne, u8s_length, Bool.not_eq_true, gt_iff_lt, ge_iff_le] at h
      omega
    obtain ⟨x, hx⟩ : ∃ x, l[i]? = some x := ⟨_, List.getElem?_eq_getElem h⟩
    (conv => arg 4; whnf); repeat (refine ⟨rfl, ?_⟩; conv => arg 4; whnf)
    refine ⟨x.av, ⟨by omega, bats_get hx⟩, ?_⟩
    (conv => arg 4; whnf); repeat (refine ⟨rfl, ?_⟩; conv => arg 4; whnf)
    refine call0E (alikeBatch (hr x (List.mem_of_getElem? hx))) (by (repeat' (first | with_reducible assumption | exact ClL.nil | exact Cl.int _ _ | exact Cl.bool _ | exact Cl.bl _ | exact Cl.bs _ | exact Cl.str _ | exact Cl.nils | exact Cl.nilp | exact Cl.rec _ | exact Cl.bat _ | exact Cl.recsV _ | exact Cl.strsV _ | exact Cl.intsV _ | exact Cl.req _ | exact Cl.rsp _ | exact Cl.reqA _ | exact Cl.rspA _ | exact Cl.batsV _ | exact Cl.getB _ | exact Cl.encA _ | exact Cl.firstA _ | refine ClL.cons ?_ ?_ | refine Cl.tup ?_ | refine Cl.agg ?_ | exact ClO.RO _ _))) (fun x => by (repeat' (first | with_reducible assumption | exact ClL.nil | exact Cl.int _ _ | exact Cl.bool _ | exact Cl.bl _ | exact Cl.bs _ | exact Cl.str _ | exact Cl.nils | exact Cl.nilp | exact Cl.rec _ | exact Cl.bat _ | exact Cl.recsV _ | exact Cl.strsV _ | exact Cl.intsV _ | exact Cl.req _ | exact Cl.rsp _ | exact Cl.reqA _ | exact Cl.rspA _ | exact Cl.batsV _ | exact Cl.getB _ | exact Cl.encA _ | exact Cl.firstA _ | refine ClL.cons ?_ ?_ | refine Cl.tup ?_ | refine Cl.agg ?_ | exact ClO.RO _ _))) fun m hm => ?_
    (conv => arg 4; whnf); repeat (refine ⟨rfl, ?_⟩; conv => arg 4; whnf)
    have hx0 : ∀ y ∈ [m], 0 ≤ y := by intro y hy; simp at hy; have := hm.1; omega
    refine holds_args (args' := [.int .i64 n, .sl .none 0 (ints [m])]) ⟨Le.refl _ _, Le.noneOf rfl, trivial⟩ ?_
    refine call0 (sum hn hx0 (by simp)) (ClL.cons (Cl.int _ _) (ClL.cons (Cl.intsV _) ClL.nil)) (Cl.int _ _) ?_
    (conv => arg 4; whnf); repeat (refine ⟨rfl, ?_⟩; conv => arg 4; whnf)
    exact ⟨⟨i + 1, isum n [m], by omega, isum_range hn hx0⟩, by show l.length - (i + 1) < l.length - i; omega, WkG.of rfl rfl ⟨Le.of_eq (succ_i64 (by omega)), Le.refl _ _, Le.refl _ _, Le.refl _ _, trivial⟩ trivial ⟨rfl, rfl, Cl.batsV _ _, rfl, trivial⟩ trivial⟩
  · conv => arg 4; whnf
    refine fin_exit ?_
    show holds _ _ _ _
    conv => arg 4; whnf
    exact ⟨n, trivial, by decide, by (repeat' (first | with_reducible exact Le.refl _ _ | exact Le.bl | exact Le.lb | exact Le.nils | exact Le.nilsFull | exact Le.none | exact LeL.nil _ | refine LeL.cons ?_ ?_ | refine Le.tup ?_ | refine Le.agg ?_ | exact Le.refl _ _ | exact LeL.refl _ _)), trivial, (by (repeat' (first | with_reducible assumption | exact ClL.nil | exact Cl.int _ _ | exact Cl.bool _ | exact Cl.bl _ | exact Cl.bs _ | exact Cl.str _ | exact Cl.nils | exact Cl.nilp | exact Cl.rec _ | exact Cl.bat _ | exact Cl.recsV _ | exact Cl.strsV _ | exact Cl.intsV _ | exact Cl.req _ | exact Cl.rsp _ | exact Cl.reqA _ | exact Cl.rspA _ | exact Cl.batsV _ | exact Cl.getB _ | exact Cl.encA _ | exact Cl.firstA _ | refine ClL.cons ?_ ?_ | refine Cl.tup ?_ | refine Cl.agg ?_ | exact ClO.RO _ _)) : Cl _) _, trivial⟩

theorem encN_le : ∀ {l : List Bat}, (∀ b ∈ l, b.chk = 0) → encN l ≤ 65536 * l.length
  | [], _ => by simp [encN]
  | b :: l, h => by
    have ih := encN_le (l := l) fun x hx => h x (List.mem_cons_of_mem _ hx)
    have := (chk_fine (h b List.mem_cons_self)).2.1
    simp only [encN, List.map_cons, List.sum_cons, List.length_cons] at ih ⊢
    omega

theorem rises_init : ∀ {l : List Bat} {b : Bat} {last : Int}, Rises (l ++ [b]) last → Rises l last
  | [], _, _, _ => trivial
  | _ :: _, _, _, ⟨h1, h2, h3⟩ => ⟨h1, h2, rises_init h3⟩
theorem torn_cut {x y c : Nat} (h : x + y ≤ 1000000000) (hc : c < y) : IntKind.i64.wrap (IntKind.i64.wrap (((x + y : Nat) : Int) - 1) - c) = ((x + (y - 1 - c) : Nat) : Int) := by
  rw [IntKind.wrap_i64, IntKind.wrap_i64]
  omega

theorem torn_size {x y : Nat} (h : x + y ≤ 1000000000) : (((x : Nat) : Int) == IntKind.i64.wrap (((x + y : Nat) : Int) - y)) = true := by
  rw [IntKind.wrap_i64]
  simp only [beq_iff_eq]
  omega

structure TnI (l : List Bat) where
  i : Nat
  s : Nat
  hi : i ≤ l.length
  hr : Rises (l.take i) (-1)

theorem lawTorn {l : List Bat} {t : List UInt8} {cut : Int} (hl : l.length ≤ 1000000000000000) (hr : ∀ b ∈ l, b.recs.length ≤ 1000000000000000) (hc : I64 cut) : CallOK Try.prog 13 [batsV l, bs t, .int .i64 cut] [] 0 Tru := by
  refine callOK Try.call13 Try.func13 Try.ntmps13 rfl ?_
  conv => arg 4; whnf
  refine call0E (alikeBatches hl hr) (ClL.cons (Cl.batsV _) (ClL.cons (Cl.int _ _) ClL.nil)) (fun x => by (repeat' (first | with_reducible assumption | exact ClL.nil | exact Cl.int _ _ | exact Cl.bool _ | exact Cl.bl _ | exact Cl.bs _ | exact Cl.str _ | exact Cl.nils | exact Cl.nilp | exact Cl.rec _ | exact Cl.bat _ | exact Cl.recsV _ | exact Cl.strsV _ | exact Cl.intsV _ | exact Cl.req _ | exact Cl.rsp _ | exact Cl.reqA _ | exact Cl.rspA _ | exact Cl.batsV _ | exact Cl.getB _ | exact Cl.encA _ | exact Cl.firstA _ | refine ClL.cons ?_ ?_ | refine Cl.tup ?_ | refine Cl.agg ?_ | exact ClO.RO _ _))) fun n hn => ?_
  (conv => arg 4; whnf); repeat (refine ⟨rfl, ?_⟩; conv => arg 4; whnf)
  refine ⟨fun h => ?_, fun h => ?_⟩
  · (conv => arg 4; whnf); repeat (refine ⟨rfl, ?_⟩; conv => arg 4; whnf)
    refine call0 awake5 (by (repeat' (first | with_reducible assumption | exact ClL.nil | exact Cl.int _ _ | exact Cl.bool _ | exact Cl.bl _ | exact Cl.bs _ | exact Cl.str _ | exact Cl.nils | exact Cl.nilp | exact Cl.rec _ | exact Cl.bat _ | exact Cl.recsV _ | exact Cl.strsV _ | exact Cl.intsV _ | exact Cl.req _ | exact Cl.rsp _ | exact Cl.reqA _ | exact Cl.rspA _ | exact Cl.batsV _ | exact Cl.getB _ | exact Cl.encA _ | exact Cl.firstA _ | refine ClL.cons ?_ ?_ | refine Cl.tup ?_ | refine Cl.agg ?_ | exact ClO.RO _ _))) (by (repeat' (first | with_reducible assumption | exact ClL.nil | exact Cl.int _ _ | exact Cl.bool _ | exact Cl.bl _ | exact Cl.bs _ | exact Cl.str _ | exact Cl.nils | exact Cl.nilp | exact Cl.rec _ | exact Cl.bat _ | exact Cl.recsV _ | exact Cl.strsV _ | exact Cl.intsV _ | exact Cl.req _ | exact Cl.rsp _ | exact Cl.reqA _ | exact Cl.rspA _ | exact Cl.batsV _ | exact Cl.getB _ | exact Cl.encA _ | exact Cl.firstA _ | refine ClL.cons ?_ ?_ | refine Cl.tup ?_ | refine Cl.agg ?_ | exact ClO.RO _ _))) ?_
    (conv => arg 4; whnf); repeat (refine ⟨rfl, ?_⟩; conv => arg 4; whnf)
    exact .inl rfl
  · rw [bats_length] at h
    rw [← Bool.not_eq_true] at h; simp only [Bool.cond_true_left, Bool.cond_false_right, Bool.or_eq_true, Bool.and_eq_true, Bool.not_eq_true', decide_eq_true_eq, beq_iff_eq, bne_iff_ne, u8s_length, gt_iff_lt, ge_iff_le] at h
    (conv => arg 4; whnf); repeat (refine ⟨rfl, ?_⟩; conv => arg 4; whnf)
    refine tri_loopG (ι := TnI l) (fun a => ⟨[(9, .int .i64 a.i), (8, .int .i64 (lastOf (l.take a.i) (-1))), (7, .sl (.tok 0 a.s) 0 (u8s (encs5 (l.take a.i)))), (0, batsV l), (1, bs t), (2, .int .i64 cut)], [(0, .tip a.s)], 1, 163⟩) (fun a => l.length - a.i) ⟨0, 0, Nat.zero_le _, trivial⟩ (WkG.tok rfl rfl ⟨Le.refl _ _, Le.refl _ _, Le.nilsTok rfl, Le.refl _ _, Le.refl _ _, Le.refl _ _, trivial⟩ ⟨⟨_, rfl, rfl⟩, trivial⟩ ⟨rfl, rfl, rfl, Cl.batsV _ _, Cl.bs t _, rfl, trivial⟩ ⟨⟨by decide, rfl⟩, trivial⟩) ?_
    rintro ⟨i, s, hi, hrs⟩
    dsimp only
    conv => arg 4; whnf
    refine ⟨fun hlt => ?_, fun hlt => ?_⟩
    · have hlt : i < l.length := by rw [bats_length] at hlt; simp at hlt; omega
      obtain ⟨x, hx⟩ : ∃ x, l[i]? = some x := ⟨_, List.getElem?_eq_getElem hlt⟩
      have htk : l.take (i + 1) = l.take i ++ [x] := by rw [List.take_add_one, hx]; rfl
      (conv => arg 4; whnf); repeat (refine ⟨rfl, ?_⟩; conv => arg 4; whnf)
      refine ⟨x.av, ⟨by omega, bats_get hx⟩, ?_⟩
      conv => arg 4; whnf
      refine ⟨x.av, ctxP_of ⟨by omega, bats_get hx⟩, ?_⟩
      conv => arg 4; whnf
      refine ⟨fun h1 => ?_, fun h1 => ?_⟩
      · (conv => arg 4; whnf); repeat (refine ⟨rfl, ?_⟩; conv => arg 4; whnf)
        refine call0 awake5 (by (repeat' (first | with_reducible assumption | exact ClL.nil | exact Cl.int _ _ | exact Cl.bool _ | exact Cl.bl _ | exact Cl.bs _ | exact Cl.str _ | exact Cl.nils | exact Cl.nilp | exact Cl.rec _ | exact Cl.bat _ | exact Cl.recsV _ | exact Cl.strsV _ | exact Cl.intsV _ | exact Cl.req _ | exact Cl.rsp _ | exact Cl.reqA _ | exact Cl.rspA _ | exact Cl.batsV _ | exact Cl.getB _ | exact Cl.encA _ | exact Cl.firstA _ | refine ClL.cons ?_ ?_ | refine Cl.tup ?_ | refine Cl.agg ?_ | exact ClO.RO _ _))) (by (repeat' (first | with_reducible assumption | exact ClL.nil | exact Cl.int _ _ | exact Cl.bool _ | exact Cl.bl _ | exact Cl.bs _ | exact Cl.str _ | exact Cl.nils | exact Cl.nilp | exact Cl.rec _ | exact Cl.bat _ | exact Cl.recsV _ | exact Cl.strsV _ | exact Cl.intsV _ | exact Cl.req _ | exact Cl.rsp _ | exact Cl.reqA _ | exact Cl.rspA _ | exact Cl.batsV _ | exact Cl.getB _ | exact Cl.encA _ | exact Cl.firstA _ | refine ClL.cons ?_ ?_ | refine Cl.tup ?_ | refine Cl.agg ?_ | exact ClO.RO _ _))) ?_
        (conv => arg 4; whnf); repeat (refine ⟨rfl, ?_⟩; conv => arg 4; whnf)
        exact .inl rfl
      · have h1 : x.recs.length ≤ 100 := by rw [recs_length] at h1; simp at h1; omega
        (conv => arg 4; whnf); repeat (refine ⟨rfl, ?_⟩; conv => arg 4; whnf)
        refine call0 (refCheck (b := x) (by omega)) (by (repeat' (first | with_reducible assumption | exact ClL.nil | exact Cl.int _ _ | exact Cl.bool _ | exact Cl.bl _ | exact Cl.bs _ | exact Cl.str _ | exact Cl.nils | exact Cl.nilp | exact Cl.rec _ | exact Cl.bat _ | exact Cl.recsV _ | exact Cl.strsV _ | exact Cl.intsV _ | exact Cl.req _ | exact Cl.rsp _ | exact Cl.reqA _ | exact Cl.rspA _ | exact Cl.batsV _ | exact Cl.getB _ | exact Cl.encA _ | exact Cl.firstA _ | refine ClL.cons ?_ ?_ | refine Cl.tup ?_ | refine Cl.agg ?_ | exact ClO.RO _ _))) (by (repeat' (first | with_reducible assumption | exact ClL.nil | exact Cl.int _ _ | exact Cl.bool _ | exact Cl.bl _ | exact Cl.bs _ | exact Cl.str _ | exact Cl.nils | exact Cl.nilp | exact Cl.rec _ | exact Cl.bat _ | exact Cl.recsV _ | exact Cl.strsV _ | exact Cl.intsV _ | exact Cl.req _ | exact Cl.rsp _ | exact Cl.reqA _ | exact Cl.rspA _ | exact Cl.batsV _ | exact Cl.getB _ | exact Cl.encA _ | exact Cl.firstA _ | refine ClL.cons ?_ ?_ | refine Cl.tup ?_ | refine Cl.agg ?_ | exact ClO.RO _ _))) ?_
        (conv => arg 4; whnf); repeat (refine ⟨rfl, ?_⟩; conv => arg 4; whnf)
        refine ⟨x.av, ctxP_of ⟨by omega, bats_get hx⟩, ?_⟩
        conv => arg 4; whnf
        refine ⟨fun h2 => ?_, fun h2 => ?_⟩
        · (conv => arg 4; whnf); repeat (refine ⟨rfl, ?_⟩; conv => arg 4; whnf)
          refine call0 awake5 (by (repeat' (first | with_reducible assumption | exact ClL.nil | exact Cl.int _ _ | exact Cl.bool _ | exact Cl.bl _ | exact Cl.bs _ | exact Cl.str _ | exact Cl.nils | exact Cl.nilp | exact Cl.rec _ | exact Cl.bat _ | exact Cl.recsV _ | exact Cl.strsV _ | exact Cl.intsV _ | exact Cl.req _ | exact Cl.rsp _ | exact Cl.reqA _ | exact Cl.rspA _ | exact Cl.batsV _ | exact Cl.getB _ | exact Cl.encA _ | exact Cl.firstA _ | refine ClL.cons ?_ ?_ | refine Cl.tup ?_ | refine Cl.agg ?_ | exact ClO.RO _ _))) (by (repeat' (first | with_reducible assumption | exact ClL.nil | exact Cl.int _ _ | exact Cl.bool _ | exact Cl.bl _ | exact Cl.bs _ | exact Cl.str _ | exact Cl.nils | exact Cl.nilp | exact Cl.rec _ | exact Cl.bat _ | exact Cl.recsV _ | exact Cl.strsV _ | exact Cl.intsV _ | exact Cl.req _ | exact Cl.rsp _ | exact Cl.reqA _ | exact Cl.rspA _ | exact Cl.batsV _ | exact Cl.getB _ | exact Cl.encA _ | exact Cl.firstA _ | refine ClL.cons ?_ ?_ | refine Cl.tup ?_ | refine Cl.agg ?_ | exact ClO.RO _ _))) ?_
          (conv => arg 4; whnf); repeat (refine ⟨rfl, ?_⟩; conv => arg 4; whnf)
          exact .inl rfl
        · rw [← Bool.not_eq_true] at h2; simp only [Bool.cond_true_left, Bool.cond_false_right, Bool.or_eq_true, Bool.and_eq_true, Bool.not_eq_true', decide_eq_true_eq, beq_iff_eq, bne_iff_ne, u8s_length, gt_iff_lt, ge_iff_le] at h2
          have h2 : x.chk = 0 ∧ lastOf (l.take i) (-1) < x.base := by omega
          (conv => arg 4; whnf); repeat (refine ⟨rfl, ?_⟩; conv => arg 4; whnf)
          refine ⟨x.av, ⟨by omega, bats_get hx⟩, ?_⟩
          (conv => arg 4; whnf); repeat (refine ⟨rfl, ?_⟩; conv => arg 4; whnf)
          refine ⟨x.av, ⟨by omega, bats_get hx⟩, ?_⟩
          conv => arg 4; whnf
          refine call0 (refEnc (b := x) (by omega)) (by (repeat' (first | with_reducible assumption | exact ClL.nil | exact Cl.int _ _ | exact Cl.bool _ | exact Cl.bl _ | exact Cl.bs _ | exact Cl.str _ | exact Cl.nils | exact Cl.nilp | exact Cl.rec _ | exact Cl.bat _ | exact Cl.recsV _ | exact Cl.strsV _ | exact Cl.intsV _ | exact Cl.req _ | exact Cl.rsp _ | exact Cl.reqA _ | exact Cl.rspA _ | exact Cl.batsV _ | exact Cl.getB _ | exact Cl.encA _ | exact Cl.firstA _ | refine ClL.cons ?_ ?_ | refine Cl.tup ?_ | refine Cl.agg ?_ | exact ClO.RO _ _))) (Cl.encA _) ?_
          rw [encA_yes h2.1]
          (conv => arg 4; whnf); repeat (refine ⟨rfl, ?_⟩; conv => arg 4; whnf)
          have hlen := encN_le (rises_chk hrs)
          rw [← encs5_length, List.length_take] at hlen
          have hxl := (chk_fine h2.1).2.1
          refine ⟨⟨by first | rfl | trivial, sizeOk 1 rfl ?_⟩, ?_⟩
          · simp [u8s]; omega
          conv => arg 4; whnf
          refine ⟨⟨i + 1, s + 1, by omega, by rw [htk]; exact rises_snoc hrs h2.1 h2.2⟩, by show l.length - (i + 1) < l.length - i; omega, WkG.of rfl rfl ⟨Le.of_eq (succ_i64 (by omega)), Le.of_eq ?_, Le.of_eq ?_, Le.refl _ _, Le.refl _ _, Le.refl _ _, trivial⟩ ⟨⟨_, rfl, LeO.refl _ _⟩, trivial⟩ ⟨rfl, rfl, ?_, Cl.batsV _ _, Cl.bs t _, rfl, trivial⟩ ⟨⟨by decide, rfl⟩, trivial⟩⟩
          · exact congrArg (AV.int .i64) (show x.last = lastOf (l.take (i + 1)) (-1) by rw [htk, lastOf_snoc])
          · exact congrArg (AV.sl (.tok 0 (s + 1)) 0) (show u8s (encs5 (l.take i)) ++ u8s x.enc = u8s (encs5 (l.take (i + 1))) by rw [htk, encs5_snoc, u8s_append])
          · exact cut_ok rfl
    · have hlt : i = l.length := by rw [bats_length] at hlt; simp at hlt; omega
      subst hlt
      rw [List.take_length] at hrs
      conv => arg 4; whnf
      refine fin_exit ?_
      show holds _ _ _ _
      conv => arg 4; whnf
      rw [show l.take l.length = l from List.take_length]
      conv => arg 4; whnf
      have hN := encN_le (rises_chk hrs)
      rw [← encs5_length] at hN
      refine call0 (refFirst' (p := t) (by omega)) (by (repeat' (first | with_reducible assumption | exact ClL.nil | exact Cl.int _ _ | exact Cl.bool _ | exact Cl.bl _ | exact Cl.bs _ | exact Cl.str _ | exact Cl.nils | exact Cl.nilp | exact Cl.rec _ | exact Cl.bat _ | exact Cl.recsV _ | exact Cl.strsV _ | exact Cl.intsV _ | exact Cl.req _ | exact Cl.rsp _ | exact Cl.reqA _ | exact Cl.rspA _ | exact Cl.batsV _ | exact Cl.getB _ | exact Cl.encA _ | exact Cl.firstA _ | refine ClL.cons ?_ ?_ | refine Cl.tup ?_ | refine Cl.agg ?_ | exact ClO.RO _ _))) (by (repeat' (first | with_reducible assumption | exact ClL.nil | exact Cl.int _ _ | exact Cl.bool _ | exact Cl.bl _ | exact Cl.bs _ | exact Cl.str _ | exact Cl.nils | exact Cl.nilp | exact Cl.rec _ | exact Cl.bat _ | exact Cl.recsV _ | exact Cl.strsV _ | exact Cl.intsV _ | exact Cl.req _ | exact Cl.rsp _ | exact Cl.reqA _ | exact Cl.rspA _ | exact Cl.batsV _ | exact Cl.getB _ | exact Cl.encA _ | exact Cl.firstA _ | refine ClL.cons ?_ ?_ | refine Cl.tup ?_ | refine Cl.agg ?_ | exact ClO.RO _ _))) ?_
      (conv => arg 4; whnf); repeat (refine ⟨rfl, ?_⟩; conv => arg 4; whnf)
      refine ⟨fun h2 => ?_, fun h2 => ?_⟩
      · (conv => arg 4; whnf); repeat (refine ⟨rfl, ?_⟩; conv => arg 4; whnf)
        refine call0 awake5 (by (repeat' (first | with_reducible assumption | exact ClL.nil | exact Cl.int _ _ | exact Cl.bool _ | exact Cl.bl _ | exact Cl.bs _ | exact Cl.str _ | exact Cl.nils | exact Cl.nilp | exact Cl.rec _ | exact Cl.bat _ | exact Cl.recsV _ | exact Cl.strsV _ | exact Cl.intsV _ | exact Cl.req _ | exact Cl.rsp _ | exact Cl.reqA _ | exact Cl.rspA _ | exact Cl.batsV _ | exact Cl.getB _ | exact Cl.encA _ | exact Cl.firstA _ | refine ClL.cons ?_ ?_ | refine Cl.tup ?_ | refine Cl.agg ?_ | exact ClO.RO _ _))) (by (repeat' (first | with_reducible assumption | exact ClL.nil | exact Cl.int _ _ | exact Cl.bool _ | exact Cl.bl _ | exact Cl.bs _ | exact Cl.str _ | exact Cl.nils | exact Cl.nilp | exact Cl.rec _ | exact Cl.bat _ | exact Cl.recsV _ | exact Cl.strsV _ | exact Cl.intsV _ | exact Cl.req _ | exact Cl.rsp _ | exact Cl.reqA _ | exact Cl.rspA _ | exact Cl.batsV _ | exact Cl.getB _ | exact Cl.encA _ | exact Cl.firstA _ | refine ClL.cons ?_ ?_ | refine Cl.tup ?_ | refine Cl.agg ?_ | exact ClO.RO _ _))) ?_
        (conv => arg 4; whnf); repeat (refine ⟨rfl, ?_⟩; conv => arg 4; whnf)
        exact .inl rfl
      · have h2 : ¬ (firstE t = 0 ∧ lastOf l (-1) < (firstB t).base) := by
          have hz := firstN_zero (p := t)
          rw [← Bool.not_eq_true] at h2; simp only [Bool.cond_true_left, Bool.cond_false_right, Bool.or_eq_true, Bool.and_eq_true, Bool.not_eq_true', decide_eq_true_eq, beq_iff_eq, bne_iff_ne, u8s_length, gt_iff_lt, ge_iff_le] at h2
          omega
        have hall : allB (encs5 l ++ t) (-1) = l := by rw [allB_app t hrs, allB_no h2, List.append_nil]
        (conv => arg 4; whnf); repeat (refine ⟨rfl, ?_⟩; conv => arg 4; whnf)
        refine ⟨sizeOk 1 rfl ?_, ?_⟩
        · simp [u8s]; omega
        refine Or.inl ?_
        conv => arg 4; whnf
        refine ⟨⟨by first | rfl | trivial, sizeOk 1 rfl ?_⟩, ?_⟩
        · simp [u8s]; omega
        conv => arg 4; whnf
        have ea : [] ++ u8s (encs5 l) ++ u8s t = u8s (encs5 l ++ t) := by rw [List.nil_append, u8s_append]
        refine holds_args (args' := [bs (encs5 l ++ t), .int .i64 1000]) ⟨Le.noneOf ea, Le.refl _ _, trivial⟩ ?_
        refine call0E (lawFound (p := encs5 l ++ t) (most := 1000) (by rw [List.length_append]; omega) (by decide)) (by (repeat' (first | with_reducible assumption | exact ClL.nil | exact Cl.int _ _ | exact Cl.bool _ | exact Cl.bl _ | exact Cl.bs _ | exact Cl.str _ | exact Cl.nils | exact Cl.nilp | exact Cl.rec _ | exact Cl.bat _ | exact Cl.recsV _ | exact Cl.strsV _ | exact Cl.intsV _ | exact Cl.req _ | exact Cl.rsp _ | exact Cl.reqA _ | exact Cl.rspA _ | exact Cl.batsV _ | exact Cl.getB _ | exact Cl.encA _ | exact Cl.firstA _ | refine ClL.cons ?_ ?_ | refine Cl.tup ?_ | refine Cl.agg ?_ | exact ClO.RO _ _))) (fun x => Cl.tup (ClL.cons (Cl.intsV _) (ClL.cons (Cl.batsV _) ClL.nil))) fun ps _ => ?_
        rw [hall, List.take_of_length_le (by omega)]
        (conv => arg 4; whnf); repeat (refine ⟨rfl, ?_⟩; conv => arg 4; whnf)
        have hfw : ∀ b ∈ l, b.recs.length ≤ 1000000 := fun b hb => by have := (chk_fine (rises_chk hrs b hb)).1.few; omega
        refine call0 (refSameBats (a := l) (b := l) (by omega) hfw) (ClL.cons (Cl.batsV _) (ClL.cons (Cl.batsV _) ClL.nil)) (by (repeat' (first | with_reducible assumption | exact ClL.nil | exact Cl.int _ _ | exact Cl.bool _ | exact Cl.bl _ | exact Cl.bs _ | exact Cl.str _ | exact Cl.nils | exact Cl.nilp | exact Cl.rec _ | exact Cl.bat _ | exact Cl.recsV _ | exact Cl.strsV _ | exact Cl.intsV _ | exact Cl.req _ | exact Cl.rsp _ | exact Cl.reqA _ | exact Cl.rspA _ | exact Cl.batsV _ | exact Cl.getB _ | exact Cl.encA _ | exact Cl.firstA _ | refine ClL.cons ?_ ?_ | refine Cl.tup ?_ | refine Cl.agg ?_ | exact ClO.RO _ _))) ?_
        (conv => arg 4; whnf); repeat (refine ⟨rfl, ?_⟩; conv => arg 4; whnf)
        refine ⟨fun h => absurd h (by first | (simp; done) | (simp [u8s]; done)), fun _ => ?_⟩
        conv => arg 4; whnf
        refine ⟨sizeOk 1 rfl ?_, ?_⟩
        · simp [u8s]; omega
        refine Or.inl ?_
        conv => arg 4; whnf
        refine ⟨⟨by first | rfl | trivial, sizeOk 1 rfl ?_⟩, ?_⟩
        · simp [u8s]; omega
        conv => arg 4; whnf
        refine holds_args (args' := [bs (encs5 l ++ t)]) ⟨Le.noneOf ea, trivial⟩ ?_
        refine call0 (batGood (p := encs5 l ++ t) (by rw [List.length_append]; omega)) (by (repeat' (first | with_reducible assumption | exact ClL.nil | exact Cl.int _ _ | exact Cl.bool _ | exact Cl.bl _ | exact Cl.bs _ | exact Cl.str _ | exact Cl.nils | exact Cl.nilp | exact Cl.rec _ | exact Cl.bat _ | exact Cl.recsV _ | exact Cl.strsV _ | exact Cl.intsV _ | exact Cl.req _ | exact Cl.rsp _ | exact Cl.reqA _ | exact Cl.rspA _ | exact Cl.batsV _ | exact Cl.getB _ | exact Cl.encA _ | exact Cl.firstA _ | refine ClL.cons ?_ ?_ | refine Cl.tup ?_ | refine Cl.agg ?_ | exact ClO.RO _ _))) (by (repeat' (first | with_reducible assumption | exact ClL.nil | exact Cl.int _ _ | exact Cl.bool _ | exact Cl.bl _ | exact Cl.bs _ | exact Cl.str _ | exact Cl.nils | exact Cl.nilp | exact Cl.rec _ | exact Cl.bat _ | exact Cl.recsV _ | exact Cl.strsV _ | exact Cl.intsV _ | exact Cl.req _ | exact Cl.rsp _ | exact Cl.reqA _ | exact Cl.rspA _ | exact Cl.batsV _ | exact Cl.getB _ | exact Cl.encA _ | exact Cl.firstA _ | refine ClL.cons ?_ ?_ | refine Cl.tup ?_ | refine Cl.agg ?_ | exact ClO.RO _ _))) ?_
        rw [hall]
        (conv => arg 4; whnf); repeat (refine ⟨rfl, ?_⟩; conv => arg 4; whnf)
        have eg : (((encN l : Nat) : Int) != ((u8s (encs5 l)).length : Int)) = false := by rw [u8s_length, encs5_length]; simp
        refine ⟨fun h' => absurd (eg.symm.trans h') (by decide), fun _ => ?_⟩
        conv => arg 4; whnf
        refine ⟨fun h3 => ?_, fun h3 => ?_⟩
        · (conv => arg 4; whnf); repeat (refine ⟨rfl, ?_⟩; conv => arg 4; whnf)
          refine call0 awake5 (by (repeat' (first | with_reducible assumption | exact ClL.nil | exact Cl.int _ _ | exact Cl.bool _ | exact Cl.bl _ | exact Cl.bs _ | exact Cl.str _ | exact Cl.nils | exact Cl.nilp | exact Cl.rec _ | exact Cl.bat _ | exact Cl.recsV _ | exact Cl.strsV _ | exact Cl.intsV _ | exact Cl.req _ | exact Cl.rsp _ | exact Cl.reqA _ | exact Cl.rspA _ | exact Cl.batsV _ | exact Cl.getB _ | exact Cl.encA _ | exact Cl.firstA _ | refine ClL.cons ?_ ?_ | refine Cl.tup ?_ | refine Cl.agg ?_ | exact ClO.RO _ _))) (by (repeat' (first | with_reducible assumption | exact ClL.nil | exact Cl.int _ _ | exact Cl.bool _ | exact Cl.bl _ | exact Cl.bs _ | exact Cl.str _ | exact Cl.nils | exact Cl.nilp | exact Cl.rec _ | exact Cl.bat _ | exact Cl.recsV _ | exact Cl.strsV _ | exact Cl.intsV _ | exact Cl.req _ | exact Cl.rsp _ | exact Cl.reqA _ | exact Cl.rspA _ | exact Cl.batsV _ | exact Cl.getB _ | exact Cl.encA _ | exact Cl.firstA _ | refine ClL.cons ?_ ?_ | refine Cl.tup ?_ | refine Cl.agg ?_ | exact ClO.RO _ _))) ?_
          (conv => arg 4; whnf); repeat (refine ⟨rfl, ?_⟩; conv => arg 4; whnf)
          exact .inl rfl
        · have h3 : 0 < l.length := by rw [bats_length] at h3; simp at h3; exact List.length_pos_iff.2 h3
          obtain ⟨m, b, rfl⟩ : ∃ m b, l = m ++ [b] := ⟨l.dropLast, l.getLast (List.length_pos_iff.1 h3), (List.dropLast_concat_getLast _).symm⟩
          (conv => arg 4; whnf); repeat (refine ⟨rfl, ?_⟩; conv => arg 4; whnf)
          have hml : m.length + 1 ≤ 30 := by rw [List.length_append, List.length_singleton] at h; omega
          have hwl : (encs5 (m ++ [b])).length = (encs5 m).length + b.enc.length := by rw [encs5_snoc, List.length_append]
          have hix : IntKind.i64.wrap (((batsL (m ++ [b])).length : Int) - 1) = (m.length : Int) := by
            rw [bats_length, IntKind.wrap_i64, List.length_append, List.length_singleton]; omega
          have hgb : (m ++ [b])[m.length]? = some b := by simp
          refine ⟨b.av, ⟨by rw [hix]; omega, by rw [hix]; exact bats_get hgb⟩, ?_⟩
          conv => arg 4; whnf
          have hcb := rises_chk hrs b (by simp)
          have hfb := (chk_fine hcb).1.few
          refine call0 (refSize (b := b) (by omega)) (by (repeat' (first | with_reducible assumption | exact ClL.nil | exact Cl.int _ _ | exact Cl.bool _ | exact Cl.bl _ | exact Cl.bs _ | exact Cl.str _ | exact Cl.nils | exact Cl.nilp | exact Cl.rec _ | exact Cl.bat _ | exact Cl.recsV _ | exact Cl.strsV _ | exact Cl.intsV _ | exact Cl.req _ | exact Cl.rsp _ | exact Cl.reqA _ | exact Cl.rspA _ | exact Cl.batsV _ | exact Cl.getB _ | exact Cl.encA _ | exact Cl.firstA _ | refine ClL.cons ?_ ?_ | refine Cl.tup ?_ | refine Cl.agg ?_ | exact ClO.RO _ _))) (by (repeat' (first | with_reducible assumption | exact ClL.nil | exact Cl.int _ _ | exact Cl.bool _ | exact Cl.bl _ | exact Cl.bs _ | exact Cl.str _ | exact Cl.nils | exact Cl.nilp | exact Cl.rec _ | exact Cl.bat _ | exact Cl.recsV _ | exact Cl.strsV _ | exact Cl.intsV _ | exact Cl.req _ | exact Cl.rsp _ | exact Cl.reqA _ | exact Cl.rspA _ | exact Cl.batsV _ | exact Cl.getB _ | exact Cl.encA _ | exact Cl.firstA _ | refine ClL.cons ?_ ?_ | refine Cl.tup ?_ | refine Cl.agg ?_ | exact ClO.RO _ _))) ?_
          rw [out_yes hcb]
          (conv => arg 4; whnf); repeat (refine ⟨rfl, ?_⟩; conv => arg 4; whnf)
          obtain ⟨c, hc1, hc2, cc⟩ := round (k := cut) (n := (b.enc.length : Int)) hc (by have := (chk_fine hcb).2.1; have := batE_len (b := b); omega)
          refine call0 cc (by (repeat' (first | with_reducible assumption | exact ClL.nil | exact Cl.int _ _ | exact Cl.bool _ | exact Cl.bl _ | exact Cl.bs _ | exact Cl.str _ | exact Cl.nils | exact Cl.nilp | exact Cl.rec _ | exact Cl.bat _ | exact Cl.recsV _ | exact Cl.strsV _ | exact Cl.intsV _ | exact Cl.req _ | exact Cl.rsp _ | exact Cl.reqA _ | exact Cl.rspA _ | exact Cl.batsV _ | exact Cl.getB _ | exact Cl.encA _ | exact Cl.firstA _ | refine ClL.cons ?_ ?_ | refine Cl.tup ?_ | refine Cl.agg ?_ | exact ClO.RO _ _))) (by (repeat' (first | with_reducible assumption | exact ClL.nil | exact Cl.int _ _ | exact Cl.bool _ | exact Cl.bl _ | exact Cl.bs _ | exact Cl.str _ | exact Cl.nils | exact Cl.nilp | exact Cl.rec _ | exact Cl.bat _ | exact Cl.recsV _ | exact Cl.strsV _ | exact Cl.intsV _ | exact Cl.req _ | exact Cl.rsp _ | exact Cl.reqA _ | exact Cl.rspA _ | exact Cl.batsV _ | exact Cl.getB _ | exact Cl.encA _ | exact Cl.firstA _ | refine ClL.cons ?_ ?_ | refine Cl.tup ?_ | refine Cl.agg ?_ | exact ClO.RO _ _))) ?_
          (conv => arg 4; whnf); repeat (refine ⟨rfl, ?_⟩; conv => arg 4; whnf)
          have hck : IntKind.i64.wrap (IntKind.i64.wrap (((u8s (encs5 (m ++ [b]))).length : Int) - 1) - c) = (((encs5 m).length + (b.enc.length - 1 - c) : Nat) : Int) := by
            rw [u8s_length, hwl]
            exact torn_cut (by omega) (by omega)
          refine ⟨by rw [hck, u8s_length, hwl]; omega, ?_⟩
          (conv => arg 4; whnf); repeat (refine ⟨rfl, ?_⟩; conv => arg 4; whnf)
          have hcc : (u8s (encs5 (m ++ [b]))).take (IntKind.i64.wrap (IntKind.i64.wrap (((u8s (encs5 (m ++ [b]))).length : Int) - 1) - c)).toNat = u8s (encs5 m ++ b.enc.take (b.enc.length - 1 - c)) := by
            rw [hck, Int.toNat_natCast, u8s_take, encs5_snoc, List.take_append, List.take_of_length_le (by omega), Nat.add_sub_cancel_left]
          have hrm : Rises m (-1) ∧ allB (encs5 m ++ b.enc.take (b.enc.length - 1 - c)) (-1) = m := by
            have h1 := rises_init hrs
            exact ⟨h1, by rw [allB_app _ h1, allB_no (fun h => first_cut hcb (by omega) h.1), List.append_nil]⟩
          have hwm : (encs5 m ++ b.enc.take (b.enc.length - 1 - c)).length ≤ 100000000 := by rw [List.length_append, List.length_take]; omega
          refine holds_args (args' := [bs (encs5 m ++ b.enc.take (b.enc.length - 1 - c)), .int .i64 1000]) ⟨Le.of_eq (congrArg (AV.sl .none 0) hcc), Le.refl _ _, trivial⟩ ?_
          refine call0E (lawFound (most := 1000) hwm (by decide)) (by (repeat' (first | with_reducible assumption | exact ClL.nil | exact Cl.int _ _ | exact Cl.bool _ | exact Cl.bl _ | exact Cl.bs _ | exact Cl.str _ | exact Cl.nils | exact Cl.nilp | exact Cl.rec _ | exact Cl.bat _ | exact Cl.recsV _ | exact Cl.strsV _ | exact Cl.intsV _ | exact Cl.req _ | exact Cl.rsp _ | exact Cl.reqA _ | exact Cl.rspA _ | exact Cl.batsV _ | exact Cl.getB _ | exact Cl.encA _ | exact Cl.firstA _ | refine ClL.cons ?_ ?_ | refine Cl.tup ?_ | refine Cl.agg ?_ | exact ClO.RO _ _))) (fun x => Cl.tup (ClL.cons (Cl.intsV _) (ClL.cons (Cl.batsV _) ClL.nil))) fun ps2 _ => ?_
          rw [hrm.2, List.take_of_length_le (by omega)]
          (conv => arg 4; whnf); repeat (refine ⟨rfl, ?_⟩; conv => arg 4; whnf)
          refine ⟨by rw [hix, bats_length, List.length_append]; omega, ?_⟩
          (conv => arg 4; whnf); repeat (refine ⟨rfl, ?_⟩; conv => arg 4; whnf)
          have htm : (batsL (m ++ [b])).take (IntKind.i64.wrap (((batsL (m ++ [b])).length : Int) - 1)).toNat = batsL m := by
            rw [hix, Int.toNat_natCast]; simp [batsL]
          refine holds_args (args' := [batsV m, batsV m]) ⟨Le.refl _ _, Le.of_eq (congrArg (AV.sl .none 6) htm), trivial⟩ ?_
          refine call0 (refSameBats (a := m) (b := m) (by omega) fun x hx => hfw x (by simp [hx])) (ClL.cons (Cl.batsV _) (ClL.cons (Cl.batsV _) ClL.nil)) (by (repeat' (first | with_reducible assumption | exact ClL.nil | exact Cl.int _ _ | exact Cl.bool _ | exact Cl.bl _ | exact Cl.bs _ | exact Cl.str _ | exact Cl.nils | exact Cl.nilp | exact Cl.rec _ | exact Cl.bat _ | exact Cl.recsV _ | exact Cl.strsV _ | exact Cl.intsV _ | exact Cl.req _ | exact Cl.rsp _ | exact Cl.reqA _ | exact Cl.rspA _ | exact Cl.batsV _ | exact Cl.getB _ | exact Cl.encA _ | exact Cl.firstA _ | refine ClL.cons ?_ ?_ | refine Cl.tup ?_ | refine Cl.agg ?_ | exact ClO.RO _ _))) ?_
          (conv => arg 4; whnf); repeat (refine ⟨rfl, ?_⟩; conv => arg 4; whnf)
          refine ⟨fun _ => ?_, fun h => absurd h (by first | (simp; done) | (simp [u8s]; done))⟩
          conv => arg 4; whnf
          refine holds_args (args' := [bs (encs5 m ++ b.enc.take (b.enc.length - 1 - c))]) ⟨Le.of_eq (congrArg (AV.sl .none 0) hcc), trivial⟩ ?_
          refine call0 (batGood hwm) (by (repeat' (first | with_reducible assumption | exact ClL.nil | exact Cl.int _ _ | exact Cl.bool _ | exact Cl.bl _ | exact Cl.bs _ | exact Cl.str _ | exact Cl.nils | exact Cl.nilp | exact Cl.rec _ | exact Cl.bat _ | exact Cl.recsV _ | exact Cl.strsV _ | exact Cl.intsV _ | exact Cl.req _ | exact Cl.rsp _ | exact Cl.reqA _ | exact Cl.rspA _ | exact Cl.batsV _ | exact Cl.getB _ | exact Cl.encA _ | exact Cl.firstA _ | refine ClL.cons ?_ ?_ | refine Cl.tup ?_ | refine Cl.agg ?_ | exact ClO.RO _ _))) (by (repeat' (first | with_reducible assumption | exact ClL.nil | exact Cl.int _ _ | exact Cl.bool _ | exact Cl.bl _ | exact Cl.bs _ | exact Cl.str _ | exact Cl.nils | exact Cl.nilp | exact Cl.rec _ | exact Cl.bat _ | exact Cl.recsV _ | exact Cl.strsV _ | exact Cl.intsV _ | exact Cl.req _ | exact Cl.rsp _ | exact Cl.reqA _ | exact Cl.rspA _ | exact Cl.batsV _ | exact Cl.getB _ | exact Cl.encA _ | exact Cl.firstA _ | refine ClL.cons ?_ ?_ | refine Cl.tup ?_ | refine Cl.agg ?_ | exact ClO.RO _ _))) ?_
          rw [hrm.2]
          (conv => arg 4; whnf); repeat (refine ⟨rfl, ?_⟩; conv => arg 4; whnf)
          have ez : (((encN m : Nat) : Int) == IntKind.i64.wrap (((u8s (encs5 (m ++ [b]))).length : Int) - b.enc.length)) = true := by
            rw [u8s_length, hwl, encs5_length]
            exact torn_size (by have := hN; rw [hwl, encs5_length] at this; omega)
          refine ⟨fun _ => ?_, fun h' => absurd (ez.symm.trans h') (by decide)⟩
          conv => arg 4; whnf
          refine call0 awake5 (by (repeat' (first | with_reducible assumption | exact ClL.nil | exact Cl.int _ _ | exact Cl.bool _ | exact Cl.bl _ | exact Cl.bs _ | exact Cl.str _ | exact Cl.nils | exact Cl.nilp | exact Cl.rec _ | exact Cl.bat _ | exact Cl.recsV _ | exact Cl.strsV _ | exact Cl.intsV _ | exact Cl.req _ | exact Cl.rsp _ | exact Cl.reqA _ | exact Cl.rspA _ | exact Cl.batsV _ | exact Cl.getB _ | exact Cl.encA _ | exact Cl.firstA _ | refine ClL.cons ?_ ?_ | refine Cl.tup ?_ | refine Cl.agg ?_ | exact ClO.RO _ _))) (by (repeat' (first | with_reducible assumption | exact ClL.nil | exact Cl.int _ _ | exact Cl.bool _ | exact Cl.bl _ | exact Cl.bs _ | exact Cl.str _ | exact Cl.nils | exact Cl.nilp | exact Cl.rec _ | exact Cl.bat _ | exact Cl.recsV _ | exact Cl.strsV _ | exact Cl.intsV _ | exact Cl.req _ | exact Cl.rsp _ | exact Cl.reqA _ | exact Cl.rspA _ | exact Cl.batsV _ | exact Cl.getB _ | exact Cl.encA _ | exact Cl.firstA _ | refine ClL.cons ?_ ?_ | refine Cl.tup ?_ | refine Cl.agg ?_ | exact ClO.RO _ _))) ?_
          (conv => arg 4; whnf); repeat (refine ⟨rfl, ?_⟩; conv => arg 4; whnf)
          exact .inl rfl
end Go.Proofs.Ythclmkhkchbpiaa
