/-
  Bytes are one answer's, and no proper head of them is an answer's.
-/
import Derived.Test.YtbehegpahiefaaaTxt3
import Derived.Test.YtbehegpahiefaaaTxt2
set_option linter.unusedVariables false
set_option linter.unusedSimpArgs false
namespace Go.Proofs.Ytbehegpahiefaaa.Pr
set_option maxRecDepth 100000
set_option maxHeartbeats 80000000
open Go.Sym

structure Rsp.good (r : Rsp) (p : List UInt8) : Prop where
  c : r.chk = 0
  o : r.ok
  e : r.enc = p

def Rsp.v11 (r : Rsp) : List UInt8 := numsB r.nums ++ lenB r.data
def Rsp.v10 (r : Rsp) : List UInt8 := put r.nums.length ++ r.v11
def Rsp.v9 (r : Rsp) : List UInt8 := textsB r.names ++ r.v10
def Rsp.v8 (r : Rsp) : List UInt8 := put r.names.length ++ r.v9
def Rsp.v7 (r : Rsp) : List UInt8 := lenB r.leader ++ r.v8
def Rsp.v6 (r : Rsp) : List UInt8 := lenB r.member ++ r.v7
def Rsp.v5 (r : Rsp) : List UInt8 := put r.gen ++ r.v6
def Rsp.v4 (r : Rsp) : List UInt8 := put r.last ++ r.v5
def Rsp.v3 (r : Rsp) : List UInt8 := put r.off ++ r.v4
def Rsp.v2 (r : Rsp) : List UInt8 := fixed r.code.toNat 2 ++ r.v3
def Rsp.v1 (r : Rsp) : List UInt8 := fixed r.corr.toNat 4 ++ r.v2

theorem enc_v (r : Rsp) : r.enc = r.v1 := by
  simp only [Rsp.enc, Rsp.head, Rsp.v1, Rsp.v2, Rsp.v3, Rsp.v4, Rsp.v5, Rsp.v6, Rsp.v7, Rsp.v8, Rsp.v9, Rsp.v10, Rsp.v11, List.append_assoc]

theorem rsp_lens {r : Rsp} (h : r.chk = 0) : (r.member.length ≤ 100 ∧ r.leader.length ≤ 100 ∧ r.names.length ≤ 1000 ∧ r.nums.length ≤ 1000 ∧ r.data.length ≤ 131072) ∧ ∀ s ∈ r.names, ¬ Long s := by
  obtain ⟨-, -, -, -, hb⟩ := Rsp.chk_ok h
  unfold Rsp.big at hb
  rw [not_or, not_or, not_or, not_or, not_or] at hb
  obtain ⟨⟨b1, b2⟩, b3, b4, b5, b6⟩ := hb
  unfold Long at b1 b2
  exact ⟨⟨by omega, by omega, by omega, by omega, by omega⟩, fun s hs k => b4 ⟨s, hs, k⟩⟩

theorem nms_inj : ∀ {l l' : List Int} {t t' : List UInt8}, l.length = l'.length → (∀ x ∈ l, I64 x) → (∀ x ∈ l', I64 x) → numsB l ++ t = numsB l' ++ t' → l = l' ∧ t = t'
  | [], [], t, t', _, _, _, h => ⟨rfl, by simpa [numsB] using h⟩
  | [], _ :: _, _, _, e, _, _, _ => by cases e
  | _ :: _, [], _, _, e, _, _, _ => by cases e
  | n :: l, n' :: l', t, t', e, h, h', hh => by
    have e1 : put n ++ (numsB l ++ t) = put n' ++ (numsB l' ++ t') := by simpa [numsB] using hh
    obtain ⟨f, e2⟩ := num_inj e1 (h n List.mem_cons_self) (h' n' List.mem_cons_self)
    obtain ⟨q1, q2⟩ := nms_inj (by simpa using e) (fun x hx => h x (List.mem_cons_of_mem _ hx)) (fun x hx => h' x (List.mem_cons_of_mem _ hx)) e2
    exact ⟨by rw [f, q1], q2⟩

theorem fix4_inj {n m : Int} {s t : List UInt8} (h : fixed n.toNat 4 ++ s = fixed m.toNat 4 ++ t) (hn : 0 ≤ n ∧ n ≤ 2147483647) (hm : 0 ≤ m ∧ m ≤ 2147483647) : n = m ∧ s = t := by
  have a := fixedR_fixed (n := n) (size := 4) (by unfold I64; omega) (fits4 hn.1 (by omega)) s
  have b := fixedR_fixed (n := m) (size := 4) (by unfold I64; omega) (fits4 hm.1 (by omega)) t
  rw [show Int.toNat 4 = 4 from rfl] at a b
  rw [h, b] at a
  simp only [Prod.mk.injEq] at a
  exact ⟨a.1.symm, a.2.1.symm⟩
theorem fix2_inj {n m : Int} {s t : List UInt8} (h : fixed n.toNat 2 ++ s = fixed m.toNat 2 ++ t) (hn : 0 ≤ n ∧ n ≤ 65535) (hm : 0 ≤ m ∧ m ≤ 65535) : n = m ∧ s = t := by
  have a := fixedR_fixed (n := n) (size := 2) (by unfold I64; omega) (fits2 hn.1 (by omega)) s
  have b := fixedR_fixed (n := m) (size := 2) (by unfold I64; omega) (fits2 hm.1 (by omega)) t
  rw [show Int.toNat 2 = 2 from rfl] at a b
  rw [h, b] at a
  simp only [Prod.mk.injEq] at a
  exact ⟨a.1.symm, a.2.1.symm⟩

theorem rsp_pre {a b : Rsp} {p t : List UInt8} (ha : a.good p) (hb : b.good (p ++ t)) : t = [] := by
  obtain ⟨c1, c2, c3, c4, -⟩ := Rsp.chk_ok ha.c
  obtain ⟨d1, d2, d3, d4, -⟩ := Rsp.chk_ok hb.c
  obtain ⟨⟨la1, la2, la3, la4, la5⟩, lan⟩ := rsp_lens ha.c
  obtain ⟨⟨lb1, lb2, lb3, lb4, lb5⟩, lbn⟩ := rsp_lens hb.c
  obtain ⟨-, -, oa3, oa4, oa5, oa6⟩ := ha.o
  obtain ⟨-, -, ob3, ob4, ob5, ob6⟩ := hb.o
  have e1 : a.v1 ++ t = b.v1 := by rw [← enc_v, ← enc_v, ha.e, hb.e]
  obtain ⟨-, e2⟩ := fix4_inj (n := a.corr) (m := b.corr) (s := a.v2 ++ t) (t := b.v2) (ap e1) ⟨c1, c2⟩ ⟨d1, d2⟩
  obtain ⟨-, e3⟩ := fix2_inj (n := a.code) (m := b.code) (s := a.v3 ++ t) (t := b.v3) (ap e2) ⟨c3, c4⟩ ⟨d3, d4⟩
  obtain ⟨-, e4⟩ := num_inj (n := a.off) (m := b.off) (s := a.v4 ++ t) (t := b.v4) (ap e3) oa3 ob3
  obtain ⟨-, e5⟩ := num_inj (n := a.last) (m := b.last) (s := a.v5 ++ t) (t := b.v5) (ap e4) oa4 ob4
  obtain ⟨-, e6⟩ := num_inj (n := a.gen) (m := b.gen) (s := a.v6 ++ t) (t := b.v6) (ap e5) oa5 ob5
  obtain ⟨-, e7⟩ := len_inj (a := a.member) (b := b.member) (s := a.v7 ++ t) (t := b.v7) (ap e6) (by omega) (by omega)
  obtain ⟨-, e8⟩ := len_inj (a := a.leader) (b := b.leader) (s := a.v8 ++ t) (t := b.v8) (ap e7) (by omega) (by omega)
  obtain ⟨f9, e9⟩ := num_inj (n := (a.names.length : Int)) (m := (b.names.length : Int)) (s := a.v9 ++ t) (t := b.v9) (ap e8) (by unfold I64; omega) (by unfold I64; omega)
  obtain ⟨-, e10⟩ := txts_inj (t := a.v10 ++ t) (t' := b.v10) (by omega) lan lbn (ap e9)
  obtain ⟨f11, e11⟩ := num_inj (n := (a.nums.length : Int)) (m := (b.nums.length : Int)) (s := a.v11 ++ t) (t := b.v11) (ap e10) (by unfold I64; omega) (by unfold I64; omega)
  obtain ⟨-, e12⟩ := nms_inj (t := lenB a.data ++ t) (t' := lenB b.data) (by omega) oa6 ob6 (ap e11)
  obtain ⟨-, e13⟩ := len_inj (a := a.data) (b := b.data) (s := t) (t := []) (by rw [List.append_nil]; exact e12) (by omega) (by omega)
  exact e13
end Go.Proofs.Ytbehegpahiefaaa.Pr

namespace Go.Proofs.Ytbehegpahiefaaa.Pr
set_option maxRecDepth 100000
set_option maxHeartbeats 80000000
open Go.Sym

structure RsX where
  r : Rsp
  e : Int

theorem fixedR_range {b r : List UInt8} {e v f : Int} {k : Nat} (hk : 1 ≤ k ∧ k ≤ 4) (h : fixedR b e k = (v, r, f)) : I64 v := by
  have h2 : (fixedR b e k).1 = v := by rw [h]
  unfold I64
  by_cases he : e = 0
  · subst he
    by_cases hb : k ≤ b.length
    · rw [fixedR_few hk hb] at h2
      have h3 := unfixed_bound (b.take k) 0
      have h4 : (b.take k).length = k := by rw [List.length_take]; omega
      rw [h4] at h3
      have h5 : 256 ^ k ≤ 256 ^ 4 := Nat.pow_le_pow_right (by decide) hk.2
      have h6 : (256 : Nat) ^ 4 = 4294967296 := by decide
      simp only at h2
      omega
    · unfold fixedR at h2
      rw [if_neg (by simp), if_pos (by omega)] at h2
      simp only at h2
      omega
  · rw [fixedR_err he] at h2
    simp only at h2
    omega

structure RsI (p : List UInt8) (n : Int) where
  i : Nat
  s : Nat
  r : List UInt8
  e : Int
  l : List Int
  hi : (i : Int) ≤ n
  hl : l.length = i
  hr : r.length ≤ p.length
  ho : ∀ x ∈ l, I64 x
  h : ∀ y : Rsp, y.good p → l = y.nums.take i ∧ r = numsB (y.nums.drop i) ++ lenB y.data ∧ e = 0

theorem numsB_drop {l : List Int} {i : Nat} {x : Int} (h : l[i]? = some x) : numsB (l.drop i) = put x ++ numsB (l.drop (i + 1)) := by
  have hlt : i < l.length := (List.getElem?_eq_some_iff.mp h).1
  have hx : l[i] = x := (List.getElem?_eq_some_iff.mp h).2
  rw [List.drop_eq_getElem_cons hlt, hx]
  rfl

def RsOk (p : List UInt8) (x : RsX) : Prop := (x.e = 0 → x.r.good p) ∧ (∀ y : Rsp, y.good p → x.e = 0 ∧ x.r = y) ∧ (x.e = 0 ∨ x.e = 2)

theorem rspRead {p : List UInt8} (hl : p.length ≤ 1000000000) : CallOK Try.prog 48 [bs p] [] 0
    (fun a h m => ∃ x : RsX, RsOk p x ∧ Out (.tup [x.r.av, .int .i64 x.e]) [] 0 a h m) := by
  refine CallOK.fitE (by decide) ?_
  refine callOK Try.call48 Try.func48 Try.ntmps48 rfl ?_
  conv => arg 4; whnf
  refine callNew (newReader (b := p) (by omega)) (ClL.cons (Cl.bs _) ClL.nil) (ClO.RO _ _) ?_
  (conv => arg 4; whnf); repeat (refine ⟨rfl, ?_⟩; conv => arg 4; whnf)
  refine call1E 1 (rFixedE (b := p) (e := 0) (size := 4) (by unfold I64; omega) (by omega)) rfl rfl (ClO.RO _ _) (fun x => ClO.RO _ _) rfl (fun x => Cl.int _ _) fun x1 h1 => ?_
  have l1 := h1.2.length_le
  (conv => arg 4; whnf); repeat (refine ⟨rfl, ?_⟩; conv => arg 4; whnf)
  refine call1E 1 (rFixedE (b := x1.r) (e := x1.e) (size := 2) (by unfold I64; omega) (by omega)) rfl rfl (ClO.RO _ _) (fun x => ClO.RO _ _) rfl (fun x => Cl.int _ _) fun x2 h2 => ?_
  have l2 := h2.2.length_le
  (conv => arg 4; whnf); repeat (refine ⟨rfl, ?_⟩; conv => arg 4; whnf)
  refine call1E 1 (rNumE (b := x2.r) (e := x2.e) (by omega)) rfl rfl (ClO.RO _ _) (fun x => ClO.RO _ _) rfl (fun x => Cl.int _ _) fun x3 h3 => ?_
  have l3 := h3.2.length_le
  (conv => arg 4; whnf); repeat (refine ⟨rfl, ?_⟩; conv => arg 4; whnf)
  refine call1E 1 (rNumE (b := x3.r) (e := x3.e) (by omega)) rfl rfl (ClO.RO _ _) (fun x => ClO.RO _ _) rfl (fun x => Cl.int _ _) fun x4 h4 => ?_
  have l4 := h4.2.length_le
  (conv => arg 4; whnf); repeat (refine ⟨rfl, ?_⟩; conv => arg 4; whnf)
  refine call1E 1 (rNumE (b := x4.r) (e := x4.e) (by omega)) rfl rfl (ClO.RO _ _) (fun x => ClO.RO _ _) rfl (fun x => Cl.int _ _) fun x5 h5 => ?_
  have l5 := h5.2.length_le
  (conv => arg 4; whnf); repeat (refine ⟨rfl, ?_⟩; conv => arg 4; whnf)
  refine call1E 1 (rTextE (b := x5.r) (e := x5.e) (most := 100) (by omega)) rfl rfl (ClO.RO _ _) (fun x => ClO.RO _ _) rfl (fun x => Cl.str _) fun x6 h6 => ?_
  have l6 := h6.2.1.length_le
  (conv => arg 4; whnf); repeat (refine ⟨rfl, ?_⟩; conv => arg 4; whnf)
  refine call1E 1 (rTextE (b := x6.r) (e := x6.e) (most := 100) (by omega)) rfl rfl (ClO.RO _ _) (fun x => ClO.RO _ _) rfl (fun x => Cl.str _) fun x7 h7 => ?_
  have l7 := h7.2.1.length_le
  (conv => arg 4; whnf); repeat (refine ⟨rfl, ?_⟩; conv => arg 4; whnf)
  refine call1E 1 (progTexts (b := x7.r) (e := x7.e) (most := 1000) (by omega) (by decide)) rfl rfl (ClO.RO _ _) (fun x => ClO.RO _ _) rfl (fun x => Cl.strsV _) fun x8 h8 => ?_
  have l8 := h8.1
  (conv => arg 4; whnf); repeat (refine ⟨rfl, ?_⟩; conv => arg 4; whnf)
  refine call1E 1 (rNumE (b := x8.r) (e := x8.e) (by omega)) rfl rfl (ClO.RO _ _) (fun x => ClO.RO _ _) rfl (fun x => Cl.int _ _) fun x9 h9 => ?_
  have l9 := h9.2.length_le
  (conv => arg 4; whnf); repeat (refine ⟨rfl, ?_⟩; conv => arg 4; whnf)
  have g1 : ∀ y : Rsp, y.good p → x1.v = y.corr ∧ x1.r = y.v2 ∧ x1.e = 0 := fun y hy => by
    obtain ⟨c1, c2, c3, c4, -⟩ := Rsp.chk_ok hy.c
    have h := h1.1
    rw [← hy.e, enc_v, Rsp.v1, show fixedR (fixed y.corr.toNat 4 ++ y.v2) 0 4 = _ from fixedR_fixed (n := y.corr) (size := 4) (by unfold I64; omega) (fits4 c1 (by omega)) y.v2] at h
    simp only [Prod.mk.injEq] at h
    exact ⟨h.1.symm, h.2.1.symm, h.2.2.symm⟩
  have g2 : ∀ y : Rsp, y.good p → x2.v = y.code ∧ x2.r = y.v3 ∧ x2.e = 0 := fun y hy => by
    obtain ⟨c1, c2, c3, c4, -⟩ := Rsp.chk_ok hy.c
    obtain ⟨-, q1, q2⟩ := g1 y hy
    have h := h2.1
    rw [q1, q2, Rsp.v2, show fixedR (fixed y.code.toNat 2 ++ y.v3) 0 2 = _ from fixedR_fixed (n := y.code) (size := 2) (by unfold I64; omega) (fits2 c3 (by omega)) y.v3] at h
    simp only [Prod.mk.injEq] at h
    exact ⟨h.1.symm, h.2.1.symm, h.2.2.symm⟩
  have g3 : ∀ y : Rsp, y.good p → x3.v = y.off ∧ x3.r = y.v4 ∧ x3.e = 0 := fun y hy => step_num (t := y.v4) h3.1 (g2 y hy).2 hy.o.2.2.1
  have g4 : ∀ y : Rsp, y.good p → x4.v = y.last ∧ x4.r = y.v5 ∧ x4.e = 0 := fun y hy => step_num (t := y.v5) h4.1 (g3 y hy).2 hy.o.2.2.2.1
  have g5 : ∀ y : Rsp, y.good p → x5.v = y.gen ∧ x5.r = y.v6 ∧ x5.e = 0 := fun y hy => step_num (t := y.v6) h5.1 (g4 y hy).2 hy.o.2.2.2.2.1
  have g6 : ∀ y : Rsp, y.good p → x6.v = y.member ∧ x6.r = y.v7 ∧ x6.e = 0 := fun y hy => by
    obtain ⟨⟨q1, q2, q3, q4, q5⟩, -⟩ := rsp_lens hy.c
    exact step_bytes (s := y.member) (t := y.v7) h6.1 (g5 y hy).2 (by omega) (by omega)
  have g7 : ∀ y : Rsp, y.good p → x7.v = y.leader ∧ x7.r = y.v8 ∧ x7.e = 0 := fun y hy => by
    obtain ⟨⟨q1, q2, q3, q4, q5⟩, -⟩ := rsp_lens hy.c
    exact step_bytes (s := y.leader) (t := y.v8) h7.1 (g6 y hy).2 (by omega) (by omega)
  have g8 : ∀ y : Rsp, y.good p → x8.l = y.names ∧ x8.r = y.v10 ∧ x8.e = 0 := fun y hy => by
    obtain ⟨⟨q1, q2, q3, q4, q5⟩, qn⟩ := rsp_lens hy.c
    exact h8.2.2 y.names y.v10 (g7 y hy).2 qn q3
  have g9 : ∀ y : Rsp, y.good p → x9.v = (y.nums.length : Int) ∧ x9.r = y.v11 ∧ x9.e = 0 := fun y hy => by
    obtain ⟨⟨q1, q2, q3, q4, q5⟩, qn⟩ := rsp_lens hy.c
    exact step_num (n := (y.nums.length : Int)) (t := y.v11) h9.1 (g8 y hy).2 (by unfold I64; omega)
  have gn : ∀ y : Rsp, y.good p → 0 ≤ x9.v ∧ x9.v ≤ 1000 := fun y hy => by
    obtain ⟨⟨q1, q2, q3, q4, q5⟩, -⟩ := rsp_lens hy.c
    have := (g9 y hy).1
    omega
  have gx : ∀ y : Rsp, y.good p → x1.v = y.corr ∧ x2.v = y.code ∧ x3.v = y.off ∧ x4.v = y.last ∧ x5.v = y.gen ∧ x6.v = y.member ∧ x7.v = y.leader ∧ x8.l = y.names := fun y hy =>
    ⟨(g1 y hy).1, (g2 y hy).1, (g3 y hy).1, (g4 y hy).1, (g5 y hy).1, (g6 y hy).1, (g7 y hy).1, (g8 y hy).1⟩
  have n3 := num_i64 h3.1
  have n4 := num_i64 h4.1
  have n5 := num_i64 h5.1
  have n1 : I64 x1.v := fixedR_range (k := 4) (by decide) h1.1
  have n2 : I64 x2.v := fixedR_range (k := 2) (by decide) h2.1
  have x8l := h8.2.1
  clear h1 h2 h3 h4 h5 h6 h7 h8 g1 g2 g3 g4 g5 g6 g7 g8
  refine ⟨fun h => ?_, fun h => ?_⟩
  · simp only [Bool.cond_true_left, Bool.cond_false_right, Bool.or_eq_true, Bool.and_eq_true, Bool.not_eq_true', decide_eq_true_eq, beq_iff_eq, bne_iff_ne, u8s_length, Bool.not_eq_true, gt_iff_lt, ge_iff_le] at h
    (conv => arg 4; whnf); repeat (refine ⟨rfl, ?_⟩; conv => arg 4; whnf)
    refine ⟨⟨⟨0, 0, 0, 0, 0, [], [], [], [], []⟩, 2⟩, ⟨fun (h : (2 : Int) = 0) => absurd h (by decide), fun y hy => ?_, .inr rfl⟩, by decide, by (repeat' (first | with_reducible exact Le.refl _ _ | exact Le.bl | exact Le.lb | exact Le.nils | exact Le.nilsFull | exact Le.none | exact LeL.nil _ | refine LeL.cons ?_ ?_ | refine Le.tup ?_ | refine Le.agg ?_ | exact Le.refl _ _ | exact LeL.refl _ _)), trivial, (by (repeat' (first | with_reducible assumption | exact ClL.nil | exact Cl.int _ _ | exact Cl.bool _ | exact Cl.bl _ | exact Cl.bs _ | exact Cl.str _ | exact Cl.nils | exact Cl.nilp | exact Cl.rec _ | exact Cl.bat _ | exact Cl.recsV _ | exact Cl.strsV _ | exact Cl.intsV _ | exact Cl.req _ | exact Cl.rsp _ | exact Cl.reqA _ | exact Cl.rspA _ | exact Cl.batsV _ | exact Cl.getB _ | exact Cl.encA _ | exact Cl.firstA _ | refine ClL.cons ?_ ?_ | refine Cl.tup ?_ | refine Cl.agg ?_ | exact ClO.RO _ _)) : Cl _) _, trivial⟩
    have := gn y hy; omega
  · rw [← Bool.not_eq_true] at h; simp only [Bool.cond_true_left, Bool.cond_false_right, Bool.or_eq_true, Bool.and_eq_true, Bool.not_eq_true', decide_eq_true_eq, beq_iff_eq, bne_iff_ne, u8s_length, gt_iff_lt, ge_iff_le] at h
    (conv => arg 4; whnf); repeat (refine ⟨rfl, ?_⟩; conv => arg 4; whnf)
    refine tri_loopG (ι := RsI p x9.v) (fun a => ⟨[(43, .int .i64 a.i), (42, .int .i64 x9.v), (4, .ptr 1 0), (3, .int .i64 0), (2, .ptr 0 0), (0, bs p)], [(2, .tip a.s), (1, RO a.r a.e), (0, .cells [.int .i64 x1.v, .int .i64 x2.v, .int .i64 x3.v, .int .i64 x4.v, .int .i64 x5.v, .str x6.v, .str x7.v, strsV x8.l, .sl (.tok 2 a.s) 0 (ints a.l), .nils])], 3, 75⟩) (fun a => (x9.v - a.i).toNat) ⟨0, 0, x9.r, x9.e, [], by omega, rfl, by omega, by simp, fun y hy => ⟨rfl, (g9 y hy).2.1, (g9 y hy).2.2⟩⟩ ?_ ?_
    · refine WkG.tok rfl rfl ⟨Le.refl _ _, Le.refl _ _, Le.refl _ _, Le.refl _ _, Le.refl _ _, Le.refl _ _, trivial⟩ ⟨⟨_, rfl, rfl⟩, ⟨_, rfl, LeO.refl _ _⟩, ⟨_, rfl, LeL.cons (Le.refl _ _) (LeL.cons (Le.refl _ _) (LeL.cons (Le.refl _ _) (LeL.cons (Le.refl _ _) (LeL.cons (Le.refl _ _) (LeL.cons (Le.refl _ _) (LeL.cons (Le.refl _ _) (LeL.cons (Le.refl _ _) (LeL.cons (Le.nilsTok rfl) (LeL.cons (Le.refl _ _) (LeL.nil _))))))))))⟩, trivial⟩ ⟨rfl, rfl, rfl, rfl, rfl, Cl.bs _ _, trivial⟩ ⟨⟨by decide, rfl⟩, ⟨by decide, ClO.RO _ _ _⟩, ⟨by decide, ?_⟩, trivial⟩
      simp only [renO, renL, ren, ClL.strs _ _, ren_ints, renP, cut_lt (show 2 < 3 by decide)]
    rintro ⟨i, s, r, e, l, hi, hll, hrl, ho, hg⟩
    dsimp only
    conv => arg 4; whnf
    refine ⟨fun hc => ?_, fun hc => ?_⟩
    · simp only [Bool.cond_true_left, Bool.cond_false_right, Bool.or_eq_true, Bool.and_eq_true, Bool.not_eq_true', decide_eq_true_eq, beq_iff_eq, bne_iff_ne, u8s_length, Bool.not_eq_true, gt_iff_lt, ge_iff_le] at hc
      (conv => arg 4; whnf); repeat (refine ⟨rfl, ?_⟩; conv => arg 4; whnf)
      refine call1E 1 (rNumE (b := r) (e := e) (by omega)) rfl rfl (ClO.RO _ _) (fun x => ClO.RO _ _) rfl (fun x => Cl.int _ _) fun z hz => ?_
      have lz := hz.2.length_le
      have nz := num_i64 hz.1
      (conv => arg 4; whnf); repeat (refine ⟨rfl, ?_⟩; conv => arg 4; whnf)
      refine ⟨⟨rfl, sizeOk 8 rfl ?_⟩, ?_⟩
      · rw [List.length_append, ints_length, hll]; simp only [List.length_cons, List.length_nil]; omega
      (conv => arg 4; whnf); repeat (refine ⟨rfl, ?_⟩; conv => arg 4; whnf)
      refine ⟨⟨i + 1, s + 1, z.r, z.e, l ++ [z.v], by omega, by rw [List.length_append, hll]; rfl, by omega, ?_, fun y hy => ?_⟩, by show (x9.v - ((i + 1 : Nat) : Int)).toNat < (x9.v - (i : Int)).toNat; omega, WkG.of rfl rfl ⟨Le.of_eq (succ_i64 (by omega)), Le.refl _ _, Le.refl _ _, Le.refl _ _, Le.refl _ _, Le.refl _ _, trivial⟩ ⟨⟨_, rfl, LeO.refl _ _⟩, ⟨_, rfl, LeO.refl _ _⟩, ⟨_, rfl, LeL.cons (Le.refl _ _) (LeL.cons (Le.refl _ _) (LeL.cons (Le.refl _ _) (LeL.cons (Le.refl _ _) (LeL.cons (Le.refl _ _) (LeL.cons (Le.refl _ _) (LeL.cons (Le.refl _ _) (LeL.cons (Le.refl _ _) (LeL.cons (Le.of_eq (congrArg (AV.sl _ 0) (by simp [ints]))) (LeL.cons (Le.refl _ _) (LeL.nil _))))))))))⟩, trivial⟩ ⟨rfl, rfl, rfl, rfl, rfl, Cl.bs _ _, trivial⟩ ⟨⟨by decide, rfl⟩, ⟨by decide, ClO.RO _ _ _⟩, ⟨by decide, ?_⟩, trivial⟩⟩
      · intro x hx
        rcases List.mem_append.mp hx with h | h
        · exact ho x h
        · rw [List.mem_singleton.mp h]; exact nz
      · obtain ⟨q1, q2, q3⟩ := hg y hy
        have hln : x9.v = (y.nums.length : Int) := (g9 y hy).1
        obtain ⟨w, hw⟩ : ∃ w, y.nums[i]? = some w := ⟨_, List.getElem?_eq_getElem (by omega)⟩
        obtain ⟨z1, z2, z3⟩ := step_num (n := w) (t := numsB (y.nums.drop (i + 1)) ++ lenB y.data) hz.1 ⟨by rw [q2, numsB_drop hw, List.append_assoc], q3⟩ (hy.o.2.2.2.2.2 w (List.mem_of_getElem? hw))
        exact ⟨by rw [q1, z1, List.take_add_one, hw]; rfl, z2, z3⟩
      · simp only [renO, renL, ren, ClL.strs _ _, ren_ints, renP, cut_lt (show 2 < 3 by decide)]
    · rw [← Bool.not_eq_true] at hc; simp only [Bool.cond_true_left, Bool.cond_false_right, Bool.or_eq_true, Bool.and_eq_true, Bool.not_eq_true', decide_eq_true_eq, beq_iff_eq, bne_iff_ne, u8s_length, gt_iff_lt, ge_iff_le] at hc
      conv => arg 4; whnf
      refine fin_exit ?_
      show holds _ _ _ _
      conv => arg 4; whnf
      refine call1E 1 (rBytesE (b := r) (e := e) (most := 131072) (by omega)) rfl rfl (ClO.RO _ _) (fun x => ClO.RO _ _) rfl (fun x => Cl.bs _) fun z hz => ?_
      (conv => arg 4; whnf); repeat (refine ⟨rfl, ?_⟩; conv => arg 4; whnf)
      refine call1 1 rErrE rfl rfl (ClO.RO _ _) (ClO.RO _ _) rfl (Cl.int _ _) ?_
      (conv => arg 4; whnf); repeat (refine ⟨rfl, ?_⟩; conv => arg 4; whnf)
      have gd : ∀ y : Rsp, y.good p → l = y.nums ∧ z.v = y.data ∧ z.e = 0 := fun y hy => by
        obtain ⟨q1, q2, q3⟩ := hg y hy
        have hln : x9.v = (y.nums.length : Int) := (g9 y hy).1
        obtain ⟨⟨k1, k2, k3, k4, k5⟩, -⟩ := rsp_lens hy.c
        have hi' : i = y.nums.length := by omega
        rw [hi', List.take_length] at q1
        rw [hi', List.drop_length] at q2
        obtain ⟨z1, z2, z3⟩ := step_bytes (s := y.data) (t := []) hz.1 ⟨by rw [q2, List.append_nil]; rfl, q3⟩ (by omega) (by omega)
        exact ⟨q1, z1, z3⟩
      refine ⟨fun hq => ?_, fun hq => ?_⟩
      · have hq : z.e ≠ 0 := by simpa using hq
        (conv => arg 4; whnf); repeat (refine ⟨rfl, ?_⟩; conv => arg 4; whnf)
        refine ⟨⟨⟨0, 0, 0, 0, 0, [], [], [], [], []⟩, 2⟩, ⟨fun (h : (2 : Int) = 0) => absurd h (by decide), fun y hy => absurd (gd y hy).2.2 hq, .inr rfl⟩, by decide, by (repeat' (first | with_reducible exact Le.refl _ _ | exact Le.bl | exact Le.lb | exact Le.nils | exact Le.nilsFull | exact Le.none | exact LeL.nil _ | refine LeL.cons ?_ ?_ | refine Le.tup ?_ | refine Le.agg ?_ | exact Le.refl _ _ | exact LeL.refl _ _)), trivial, (by (repeat' (first | with_reducible assumption | exact ClL.nil | exact Cl.int _ _ | exact Cl.bool _ | exact Cl.bl _ | exact Cl.bs _ | exact Cl.str _ | exact Cl.nils | exact Cl.nilp | exact Cl.rec _ | exact Cl.bat _ | exact Cl.recsV _ | exact Cl.strsV _ | exact Cl.intsV _ | exact Cl.req _ | exact Cl.rsp _ | exact Cl.reqA _ | exact Cl.rspA _ | exact Cl.batsV _ | exact Cl.getB _ | exact Cl.encA _ | exact Cl.firstA _ | refine ClL.cons ?_ ?_ | refine Cl.tup ?_ | refine Cl.agg ?_ | exact ClO.RO _ _)) : Cl _) _, trivial⟩
      · have hq : z.e = 0 := by simpa using hq
        (conv => arg 4; whnf); repeat (refine ⟨rfl, ?_⟩; conv => arg 4; whnf)
        obtain ⟨X, hX⟩ : ∃ X : Rsp, X = ⟨x1.v, x2.v, x3.v, x4.v, x5.v, x6.v, x7.v, x8.l, l, z.v⟩ := ⟨_, rfl⟩
        have hav : ∀ h, Le h (.agg [.int .i64 x1.v, .int .i64 x2.v, .int .i64 x3.v, .int .i64 x4.v, .int .i64 x5.v, .str x6.v, .str x7.v, strsV x8.l, .sl (.tok 2 s) 0 (ints l), bs z.v]) X.av := fun h => by rw [hX]; show Le _ _ (.agg _); (repeat' (first | with_reducible exact Le.refl _ _ | exact Le.bl | exact Le.lb | exact Le.nils | exact Le.nilsFull | exact Le.none | exact LeL.nil _ | refine LeL.cons ?_ ?_ | refine Le.tup ?_ | refine Le.agg ?_ | exact Le.refl _ _ | exact LeL.refl _ _))
        have hok : X.ok := by
          rw [hX]
          exact ⟨n1, n2, n3, n4, n5, ho⟩
        have hXl : X.names.length ≤ 1000000000000 := by rw [hX]; simp only; omega
        have hgood : ∀ y : Rsp, y.good p → X = y := fun y hy => by
          obtain ⟨q1, q2, q3, q4, q5, q6, q7, q8⟩ := gx y hy
          obtain ⟨q12, q13, -⟩ := gd y hy
          rw [hX, q1, q2, q3, q4, q5, q6, q7, q8, q12, q13]
        refine holds_args (args' := [X.av]) ⟨hav _, trivial⟩ ?_
        refine call0 (rspEnc hok hXl) (ClL.cons (Cl.rsp _) ClL.nil) (Cl.rspA _) ?_
        (conv => arg 4; whnf); repeat (refine ⟨rfl, ?_⟩; conv => arg 4; whnf)
        refine ⟨fun hk2 => ?_, fun hk2 => ?_⟩
        · have hk2 : X.chk ≠ 0 := by simpa using hk2
          (conv => arg 4; whnf); repeat (refine ⟨rfl, ?_⟩; conv => arg 4; whnf)
          refine ⟨⟨⟨0, 0, 0, 0, 0, [], [], [], [], []⟩, 2⟩, ⟨fun (h : (2 : Int) = 0) => absurd h (by decide), fun y hy => ?_, .inr rfl⟩, by decide, by (repeat' (first | with_reducible exact Le.refl _ _ | exact Le.bl | exact Le.lb | exact Le.nils | exact Le.nilsFull | exact Le.none | exact LeL.nil _ | refine LeL.cons ?_ ?_ | refine Le.tup ?_ | refine Le.agg ?_ | exact Le.refl _ _ | exact LeL.refl _ _)), trivial, (by (repeat' (first | with_reducible assumption | exact ClL.nil | exact Cl.int _ _ | exact Cl.bool _ | exact Cl.bl _ | exact Cl.bs _ | exact Cl.str _ | exact Cl.nils | exact Cl.nilp | exact Cl.rec _ | exact Cl.bat _ | exact Cl.recsV _ | exact Cl.strsV _ | exact Cl.intsV _ | exact Cl.req _ | exact Cl.rsp _ | exact Cl.reqA _ | exact Cl.rspA _ | exact Cl.batsV _ | exact Cl.getB _ | exact Cl.encA _ | exact Cl.firstA _ | refine ClL.cons ?_ ?_ | refine Cl.tup ?_ | refine Cl.agg ?_ | exact ClO.RO _ _)) : Cl _) _, trivial⟩
          have e := hgood y hy
          rw [e] at hk2
          exact absurd hy.c hk2
        · have hk2 : X.chk = 0 := by simpa using hk2
          (conv => arg 4; whnf); repeat (refine ⟨rfl, ?_⟩; conv => arg 4; whnf)
          refine call0 bytesEqual (by (repeat' (first | with_reducible assumption | exact ClL.nil | exact Cl.int _ _ | exact Cl.bool _ | exact Cl.bl _ | exact Cl.bs _ | exact Cl.str _ | exact Cl.nils | exact Cl.nilp | exact Cl.rec _ | exact Cl.bat _ | exact Cl.recsV _ | exact Cl.strsV _ | exact Cl.intsV _ | exact Cl.req _ | exact Cl.rsp _ | exact Cl.reqA _ | exact Cl.rspA _ | exact Cl.batsV _ | exact Cl.getB _ | exact Cl.encA _ | exact Cl.firstA _ | refine ClL.cons ?_ ?_ | refine Cl.tup ?_ | refine Cl.agg ?_ | exact ClO.RO _ _))) (by (repeat' (first | with_reducible assumption | exact ClL.nil | exact Cl.int _ _ | exact Cl.bool _ | exact Cl.bl _ | exact Cl.bs _ | exact Cl.str _ | exact Cl.nils | exact Cl.nilp | exact Cl.rec _ | exact Cl.bat _ | exact Cl.recsV _ | exact Cl.strsV _ | exact Cl.intsV _ | exact Cl.req _ | exact Cl.rsp _ | exact Cl.reqA _ | exact Cl.rspA _ | exact Cl.batsV _ | exact Cl.getB _ | exact Cl.encA _ | exact Cl.firstA _ | refine ClL.cons ?_ ?_ | refine Cl.tup ?_ | refine Cl.agg ?_ | exact ClO.RO _ _))) ?_
          (conv => arg 4; whnf); repeat (refine ⟨rfl, ?_⟩; conv => arg 4; whnf)
          rw [X.out_yes hk2]
          refine ⟨fun hk3 => ?_, fun hk3 => ?_⟩
          · have hk3 : X.enc ≠ p := by simpa using hk3
            (conv => arg 4; whnf); repeat (refine ⟨rfl, ?_⟩; conv => arg 4; whnf)
            refine ⟨⟨⟨0, 0, 0, 0, 0, [], [], [], [], []⟩, 2⟩, ⟨fun (h : (2 : Int) = 0) => absurd h (by decide), fun y hy => ?_, .inr rfl⟩, by decide, by (repeat' (first | with_reducible exact Le.refl _ _ | exact Le.bl | exact Le.lb | exact Le.nils | exact Le.nilsFull | exact Le.none | exact LeL.nil _ | refine LeL.cons ?_ ?_ | refine Le.tup ?_ | refine Le.agg ?_ | exact Le.refl _ _ | exact LeL.refl _ _)), trivial, (by (repeat' (first | with_reducible assumption | exact ClL.nil | exact Cl.int _ _ | exact Cl.bool _ | exact Cl.bl _ | exact Cl.bs _ | exact Cl.str _ | exact Cl.nils | exact Cl.nilp | exact Cl.rec _ | exact Cl.bat _ | exact Cl.recsV _ | exact Cl.strsV _ | exact Cl.intsV _ | exact Cl.req _ | exact Cl.rsp _ | exact Cl.reqA _ | exact Cl.rspA _ | exact Cl.batsV _ | exact Cl.getB _ | exact Cl.encA _ | exact Cl.firstA _ | refine ClL.cons ?_ ?_ | refine Cl.tup ?_ | refine Cl.agg ?_ | exact ClO.RO _ _)) : Cl _) _, trivial⟩
            have e := hgood y hy
            rw [e] at hk3
            exact absurd hy.e hk3
          · have hk3 : X.enc = p := by simpa using hk3
            (conv => arg 4; whnf); repeat (refine ⟨rfl, ?_⟩; conv => arg 4; whnf)
            exact ⟨⟨X, 0⟩, ⟨fun _ => ⟨hk2, hok, hk3⟩, fun y hy => ⟨rfl, hgood y hy⟩, .inl rfl⟩, by decide, Le.tup (LeL.cons (hav _) (LeL.refl _ _)), trivial, (by (repeat' (first | with_reducible assumption | exact ClL.nil | exact Cl.int _ _ | exact Cl.bool _ | exact Cl.bl _ | exact Cl.bs _ | exact Cl.str _ | exact Cl.nils | exact Cl.nilp | exact Cl.rec _ | exact Cl.bat _ | exact Cl.recsV _ | exact Cl.strsV _ | exact Cl.intsV _ | exact Cl.req _ | exact Cl.rsp _ | exact Cl.reqA _ | exact Cl.rspA _ | exact Cl.batsV _ | exact Cl.getB _ | exact Cl.encA _ | exact Cl.firstA _ | refine ClL.cons ?_ ?_ | refine Cl.tup ?_ | refine Cl.agg ?_ | exact ClO.RO _ _)) : Cl _) _, trivial⟩
end Go.Proofs.Ytbehegpahiefaaa.Pr

namespace Go.Proofs.Ytbehegpahiefaaa.Pr
set_option maxRecDepth 100000
set_option maxHeartbeats 80000000
open Go.Sym

theorem errOk_zero {p : List UInt8} (h : ErrOk p 0) : (decR p).good p := by
  unfold ErrOk at h
  split at h
  · omega
  · split at h
    · omega
    · split at h
      · omega
      · rcases h with h | h
        · exact h.2
        · omega
theorem cut_fact {r : Req} {P : List UInt8} {c : Nat} {g : Int} (hg : r.good P) (hc : c ≤ P.length) (h : ErrOk (P.take c) g) : ((g == 0) != ((c : Int) == (P.length : Int))) = false := by
  by_cases h0 : g = 0
  · subst h0
    rw [good_cut hg hc (errOk_zero h)]
    simp
  · have : c ≠ P.length := fun e => by
      rw [e, List.take_length] at h
      exact h0 (errOk_good hg h).1
    have h1 : (g == 0) = false := by simpa using h0
    have h2 : ((c : Int) == (P.length : Int)) = false := by simp; omega
    rw [h1, h2]; rfl
theorem more_fact {r : Req} {P : List UInt8} {x : UInt8} {g : Int} (hg : r.good P) (h : ErrOk (P ++ [x]) g) : g ≠ 0 := fun e => by
  subst e
  exact good_more hg (errOk_zero h)

theorem nms_len : ∀ {l : List Int}, (∀ x ∈ l, I64 x) → (numsB l).length ≤ 10 * l.length
  | [], _ => by simp [numsB]
  | n :: l, h => by
    have h1 := put_len (h n List.mem_cons_self)
    have h2 := nms_len (l := l) fun x hx => h x (List.mem_cons_of_mem _ hx)
    have e : (numsB (n :: l)).length = (put n).length + (numsB l).length := by simp [numsB]
    rw [e, List.length_cons]
    omega

theorem rsp_len {r : Rsp} {p : List UInt8} (h : r.good p) : p.length ≤ 1000000 := by
  obtain ⟨⟨k1, k2, k3, k4, k5⟩, kn⟩ := rsp_lens h.c
  obtain ⟨-, -, o3, o4, o5, o6⟩ := h.o
  rw [← h.e]
  have p1 := lenB_len (l := r.member) (by omega)
  have p2 := lenB_len (l := r.leader) (by omega)
  have p5 := lenB_len (l := r.data) (by omega)
  have p6 := textsB_len kn
  have p7 := put_len (n := (r.names.length : Int)) (by unfold I64; omega)
  have p8 := put_len (n := (r.nums.length : Int)) (by unfold I64; omega)
  have p9 := put_len o3
  have p10 := put_len o4
  have p11 := put_len o5
  have p12 := nms_len o6
  simp only [Rsp.enc, Rsp.head, List.length_append, fixed_len]
  omega

theorem lawBack {r : Req} {s : Rsp} {k : Int} {x : UInt8} (hr : r.fits) (hs : s.fits) (hk : I64 k) : CallOK Try.prog 11 [r.av, s.av, .int .i64 k, u8 x] [] 0 Tru := by
  refine callOK Try.call11 Try.func11 Try.ntmps11 rfl ?_
  conv => arg 4; whnf
  refine call0E (reqWt hr.names (by have := hr.client; omega)) (by (repeat' (first | with_reducible assumption | exact ClL.nil | exact Cl.int _ _ | exact Cl.bool _ | exact Cl.bl _ | exact Cl.bs _ | exact Cl.str _ | exact Cl.nils | exact Cl.nilp | exact Cl.rec _ | exact Cl.bat _ | exact Cl.recsV _ | exact Cl.strsV _ | exact Cl.intsV _ | exact Cl.req _ | exact Cl.rsp _ | exact Cl.reqA _ | exact Cl.rspA _ | exact Cl.batsV _ | exact Cl.getB _ | exact Cl.encA _ | exact Cl.firstA _ | refine ClL.cons ?_ ?_ | refine Cl.tup ?_ | refine Cl.agg ?_ | exact ClO.RO _ _))) (fun x => by (repeat' (first | with_reducible assumption | exact ClL.nil | exact Cl.int _ _ | exact Cl.bool _ | exact Cl.bl _ | exact Cl.bs _ | exact Cl.str _ | exact Cl.nils | exact Cl.nilp | exact Cl.rec _ | exact Cl.bat _ | exact Cl.recsV _ | exact Cl.strsV _ | exact Cl.intsV _ | exact Cl.req _ | exact Cl.rsp _ | exact Cl.reqA _ | exact Cl.rspA _ | exact Cl.batsV _ | exact Cl.getB _ | exact Cl.encA _ | exact Cl.firstA _ | refine ClL.cons ?_ ?_ | refine Cl.tup ?_ | refine Cl.agg ?_ | exact ClO.RO _ _))) fun n1 w1 => ?_
  (conv => arg 4; whnf); repeat (refine ⟨rfl, ?_⟩; conv => arg 4; whnf)
  refine ⟨fun h => ?_, fun h => ?_⟩
  · (conv => arg 4; whnf); repeat (refine ⟨rfl, ?_⟩; conv => arg 4; whnf)
    refine call0 awake20 (by (repeat' (first | with_reducible assumption | exact ClL.nil | exact Cl.int _ _ | exact Cl.bool _ | exact Cl.bl _ | exact Cl.bs _ | exact Cl.str _ | exact Cl.nils | exact Cl.nilp | exact Cl.rec _ | exact Cl.bat _ | exact Cl.recsV _ | exact Cl.strsV _ | exact Cl.intsV _ | exact Cl.req _ | exact Cl.rsp _ | exact Cl.reqA _ | exact Cl.rspA _ | exact Cl.batsV _ | exact Cl.getB _ | exact Cl.encA _ | exact Cl.firstA _ | refine ClL.cons ?_ ?_ | refine Cl.tup ?_ | refine Cl.agg ?_ | exact ClO.RO _ _))) (by (repeat' (first | with_reducible assumption | exact ClL.nil | exact Cl.int _ _ | exact Cl.bool _ | exact Cl.bl _ | exact Cl.bs _ | exact Cl.str _ | exact Cl.nils | exact Cl.nilp | exact Cl.rec _ | exact Cl.bat _ | exact Cl.recsV _ | exact Cl.strsV _ | exact Cl.intsV _ | exact Cl.req _ | exact Cl.rsp _ | exact Cl.reqA _ | exact Cl.rspA _ | exact Cl.batsV _ | exact Cl.getB _ | exact Cl.encA _ | exact Cl.firstA _ | refine ClL.cons ?_ ?_ | refine Cl.tup ?_ | refine Cl.agg ?_ | exact ClO.RO _ _))) ?_
    (conv => arg 4; whnf); repeat (refine ⟨rfl, ?_⟩; conv => arg 4; whnf)
    exact .inl rfl
  · have h : n1 ≤ 5000 := by simpa using h
    (conv => arg 4; whnf); repeat (refine ⟨rfl, ?_⟩; conv => arg 4; whnf)
    refine call0E (rspWt hs.names (by have := hs.member; omega)) (by (repeat' (first | with_reducible assumption | exact ClL.nil | exact Cl.int _ _ | exact Cl.bool _ | exact Cl.bl _ | exact Cl.bs _ | exact Cl.str _ | exact Cl.nils | exact Cl.nilp | exact Cl.rec _ | exact Cl.bat _ | exact Cl.recsV _ | exact Cl.strsV _ | exact Cl.intsV _ | exact Cl.req _ | exact Cl.rsp _ | exact Cl.reqA _ | exact Cl.rspA _ | exact Cl.batsV _ | exact Cl.getB _ | exact Cl.encA _ | exact Cl.firstA _ | refine ClL.cons ?_ ?_ | refine Cl.tup ?_ | refine Cl.agg ?_ | exact ClO.RO _ _))) (fun x => by (repeat' (first | with_reducible assumption | exact ClL.nil | exact Cl.int _ _ | exact Cl.bool _ | exact Cl.bl _ | exact Cl.bs _ | exact Cl.str _ | exact Cl.nils | exact Cl.nilp | exact Cl.rec _ | exact Cl.bat _ | exact Cl.recsV _ | exact Cl.strsV _ | exact Cl.intsV _ | exact Cl.req _ | exact Cl.rsp _ | exact Cl.reqA _ | exact Cl.rspA _ | exact Cl.batsV _ | exact Cl.getB _ | exact Cl.encA _ | exact Cl.firstA _ | refine ClL.cons ?_ ?_ | refine Cl.tup ?_ | refine Cl.agg ?_ | exact ClO.RO _ _))) fun n2 w2 => ?_
    (conv => arg 4; whnf); repeat (refine ⟨rfl, ?_⟩; conv => arg 4; whnf)
    refine ⟨fun h2 => ?_, fun h2 => ?_⟩
    · (conv => arg 4; whnf); repeat (refine ⟨rfl, ?_⟩; conv => arg 4; whnf)
      refine call0 awake20 (by (repeat' (first | with_reducible assumption | exact ClL.nil | exact Cl.int _ _ | exact Cl.bool _ | exact Cl.bl _ | exact Cl.bs _ | exact Cl.str _ | exact Cl.nils | exact Cl.nilp | exact Cl.rec _ | exact Cl.bat _ | exact Cl.recsV _ | exact Cl.strsV _ | exact Cl.intsV _ | exact Cl.req _ | exact Cl.rsp _ | exact Cl.reqA _ | exact Cl.rspA _ | exact Cl.batsV _ | exact Cl.getB _ | exact Cl.encA _ | exact Cl.firstA _ | refine ClL.cons ?_ ?_ | refine Cl.tup ?_ | refine Cl.agg ?_ | exact ClO.RO _ _))) (by (repeat' (first | with_reducible assumption | exact ClL.nil | exact Cl.int _ _ | exact Cl.bool _ | exact Cl.bl _ | exact Cl.bs _ | exact Cl.str _ | exact Cl.nils | exact Cl.nilp | exact Cl.rec _ | exact Cl.bat _ | exact Cl.recsV _ | exact Cl.strsV _ | exact Cl.intsV _ | exact Cl.req _ | exact Cl.rsp _ | exact Cl.reqA _ | exact Cl.rspA _ | exact Cl.batsV _ | exact Cl.getB _ | exact Cl.encA _ | exact Cl.firstA _ | refine ClL.cons ?_ ?_ | refine Cl.tup ?_ | refine Cl.agg ?_ | exact ClO.RO _ _))) ?_
      (conv => arg 4; whnf); repeat (refine ⟨rfl, ?_⟩; conv => arg 4; whnf)
      exact .inl rfl
    · have h2 : n2 ≤ 5000 := by simpa using h2
      have e1 := w1.le (by omega)
      have s1 := req_small (r := r) (by omega)
      have e2 := w2.le (by omega)
      have s2 := rsp_small (r := s) (by omega)
      (conv => arg 4; whnf); repeat (refine ⟨rfl, ?_⟩; conv => arg 4; whnf)
      refine call0 (reqEnc hr.ok (by omega)) (by (repeat' (first | with_reducible assumption | exact ClL.nil | exact Cl.int _ _ | exact Cl.bool _ | exact Cl.bl _ | exact Cl.bs _ | exact Cl.str _ | exact Cl.nils | exact Cl.nilp | exact Cl.rec _ | exact Cl.bat _ | exact Cl.recsV _ | exact Cl.strsV _ | exact Cl.intsV _ | exact Cl.req _ | exact Cl.rsp _ | exact Cl.reqA _ | exact Cl.rspA _ | exact Cl.batsV _ | exact Cl.getB _ | exact Cl.encA _ | exact Cl.firstA _ | refine ClL.cons ?_ ?_ | refine Cl.tup ?_ | refine Cl.agg ?_ | exact ClO.RO _ _))) (Cl.reqA _) ?_
      (conv => arg 4; whnf); repeat (refine ⟨rfl, ?_⟩; conv => arg 4; whnf)
      refine ⟨fun hc => ?_, fun hc => ?_⟩
      · have hc : r.chk = 0 := by simpa using hc
        have hg : r.good r.out := ⟨hc, hr.ok, (r.out_yes hc).symm⟩
        obtain ⟨P, hP⟩ : ∃ P, P = r.out := ⟨_, rfl⟩
        rw [← hP] at hg ⊢
        have hgs := good_size hg
        obtain ⟨c, c1, -, c3⟩ := round (n := (P.length : Int) + 1) hk (by omega)
        (conv => arg 4; whnf); repeat (refine ⟨rfl, ?_⟩; conv => arg 4; whnf)
        refine call0E (reqDec (p := P) (by omega)) (by (repeat' (first | with_reducible assumption | exact ClL.nil | exact Cl.int _ _ | exact Cl.bool _ | exact Cl.bl _ | exact Cl.bs _ | exact Cl.str _ | exact Cl.nils | exact Cl.nilp | exact Cl.rec _ | exact Cl.bat _ | exact Cl.recsV _ | exact Cl.strsV _ | exact Cl.intsV _ | exact Cl.req _ | exact Cl.rsp _ | exact Cl.reqA _ | exact Cl.rspA _ | exact Cl.batsV _ | exact Cl.getB _ | exact Cl.encA _ | exact Cl.firstA _ | refine ClL.cons ?_ ?_ | refine Cl.tup ?_ | refine Cl.agg ?_ | exact ClO.RO _ _))) (fun x => by (repeat' (first | with_reducible assumption | exact ClL.nil | exact Cl.int _ _ | exact Cl.bool _ | exact Cl.bl _ | exact Cl.bs _ | exact Cl.str _ | exact Cl.nils | exact Cl.nilp | exact Cl.rec _ | exact Cl.bat _ | exact Cl.recsV _ | exact Cl.strsV _ | exact Cl.intsV _ | exact Cl.req _ | exact Cl.rsp _ | exact Cl.reqA _ | exact Cl.rspA _ | exact Cl.batsV _ | exact Cl.getB _ | exact Cl.encA _ | exact Cl.firstA _ | refine ClL.cons ?_ ?_ | refine Cl.tup ?_ | refine Cl.agg ?_ | exact ClO.RO _ _))) fun g1 hg1 => ?_
        obtain ⟨q1, q2, q3⟩ := errOk_good hg hg1
        rw [q1, q2, q3]
        (conv => arg 4; whnf); repeat (refine ⟨rfl, ?_⟩; conv => arg 4; whnf)
        refine holds_args (args' := [_, .int .i64 ((P.length : Int) + 1)]) ⟨Le.refl _ _, Le.of_eq (congrArg (AV.int .i64) (by rw [u8s_length, IntKind.wrap_i64]; omega)), trivial⟩ ?_
        refine call0 c3 (by (repeat' (first | with_reducible assumption | exact ClL.nil | exact Cl.int _ _ | exact Cl.bool _ | exact Cl.bl _ | exact Cl.bs _ | exact Cl.str _ | exact Cl.nils | exact Cl.nilp | exact Cl.rec _ | exact Cl.bat _ | exact Cl.recsV _ | exact Cl.strsV _ | exact Cl.intsV _ | exact Cl.req _ | exact Cl.rsp _ | exact Cl.reqA _ | exact Cl.rspA _ | exact Cl.batsV _ | exact Cl.getB _ | exact Cl.encA _ | exact Cl.firstA _ | refine ClL.cons ?_ ?_ | refine Cl.tup ?_ | refine Cl.agg ?_ | exact ClO.RO _ _))) (Cl.int _ _) ?_
        (conv => arg 4; whnf); repeat (refine ⟨rfl, ?_⟩; conv => arg 4; whnf)
        refine ⟨⟨by omega, by rw [u8s_length]; omega⟩, ?_⟩
        (conv => arg 4; whnf); repeat (refine ⟨rfl, ?_⟩; conv => arg 4; whnf)
        refine holds_args (args' := [bs (P.take c)]) ⟨Le.of_eq (congrArg (AV.sl .none 0) (by rw [Int.toNat_natCast, u8s_take])), trivial⟩ ?_
        refine call0E (reqDec (p := P.take c) (by simp; omega)) (by (repeat' (first | with_reducible assumption | exact ClL.nil | exact Cl.int _ _ | exact Cl.bool _ | exact Cl.bl _ | exact Cl.bs _ | exact Cl.str _ | exact Cl.nils | exact Cl.nilp | exact Cl.rec _ | exact Cl.bat _ | exact Cl.recsV _ | exact Cl.strsV _ | exact Cl.intsV _ | exact Cl.req _ | exact Cl.rsp _ | exact Cl.reqA _ | exact Cl.rspA _ | exact Cl.batsV _ | exact Cl.getB _ | exact Cl.encA _ | exact Cl.firstA _ | refine ClL.cons ?_ ?_ | refine Cl.tup ?_ | refine Cl.agg ?_ | exact ClO.RO _ _))) (fun x => by (repeat' (first | with_reducible assumption | exact ClL.nil | exact Cl.int _ _ | exact Cl.bool _ | exact Cl.bl _ | exact Cl.bs _ | exact Cl.str _ | exact Cl.nils | exact Cl.nilp | exact Cl.rec _ | exact Cl.bat _ | exact Cl.recsV _ | exact Cl.strsV _ | exact Cl.intsV _ | exact Cl.req _ | exact Cl.rsp _ | exact Cl.reqA _ | exact Cl.rspA _ | exact Cl.batsV _ | exact Cl.getB _ | exact Cl.encA _ | exact Cl.firstA _ | refine ClL.cons ?_ ?_ | refine Cl.tup ?_ | refine Cl.agg ?_ | exact ClO.RO _ _))) fun g2 hg2 => ?_
        (conv => arg 4; whnf); repeat (refine ⟨rfl, ?_⟩; conv => arg 4; whnf)
        refine ⟨sizeOk 1 rfl (by simp [u8s_length]; omega), ?_⟩
        (conv => arg 4; whnf); repeat (refine ⟨rfl, ?_⟩; conv => arg 4; whnf)
        refine ⟨⟨rfl, sizeOk 1 rfl (by simp [u8s_length]; omega)⟩, ?_⟩
        (conv => arg 4; whnf); repeat (refine ⟨rfl, ?_⟩; conv => arg 4; whnf)
        refine holds_args (args' := [bs (P ++ [x])]) ⟨Le.noneOf (by simp [u8s_append, u8s]; rfl), trivial⟩ ?_
        refine call0E (reqDec (p := P ++ [x]) (by simp; omega)) (by (repeat' (first | with_reducible assumption | exact ClL.nil | exact Cl.int _ _ | exact Cl.bool _ | exact Cl.bl _ | exact Cl.bs _ | exact Cl.str _ | exact Cl.nils | exact Cl.nilp | exact Cl.rec _ | exact Cl.bat _ | exact Cl.recsV _ | exact Cl.strsV _ | exact Cl.intsV _ | exact Cl.req _ | exact Cl.rsp _ | exact Cl.reqA _ | exact Cl.rspA _ | exact Cl.batsV _ | exact Cl.getB _ | exact Cl.encA _ | exact Cl.firstA _ | refine ClL.cons ?_ ?_ | refine Cl.tup ?_ | refine Cl.agg ?_ | exact ClO.RO _ _))) (fun x => by (repeat' (first | with_reducible assumption | exact ClL.nil | exact Cl.int _ _ | exact Cl.bool _ | exact Cl.bl _ | exact Cl.bs _ | exact Cl.str _ | exact Cl.nils | exact Cl.nilp | exact Cl.rec _ | exact Cl.bat _ | exact Cl.recsV _ | exact Cl.strsV _ | exact Cl.intsV _ | exact Cl.req _ | exact Cl.rsp _ | exact Cl.reqA _ | exact Cl.rspA _ | exact Cl.batsV _ | exact Cl.getB _ | exact Cl.encA _ | exact Cl.firstA _ | refine ClL.cons ?_ ?_ | refine Cl.tup ?_ | refine Cl.agg ?_ | exact ClO.RO _ _))) fun g3 hg3 => ?_
        have cf := cut_fact hg (by omega) hg2
        have mf := more_fact hg hg3
        (conv => arg 4; whnf); repeat (refine ⟨rfl, ?_⟩; conv => arg 4; whnf)
        have q0 : (bif (0 : Int) != 0 then true else r.corr != r.corr) = false := by simp
        refine ⟨fun h' => absurd (q0.symm.trans h') (by decide), fun _ => ?_⟩
        (conv => arg 4; whnf); repeat (refine ⟨rfl, ?_⟩; conv => arg 4; whnf)
        refine call0 (reqSame (a := r) (b := r) (by omega)) (by (repeat' (first | with_reducible assumption | exact ClL.nil | exact Cl.int _ _ | exact Cl.bool _ | exact Cl.bl _ | exact Cl.bs _ | exact Cl.str _ | exact Cl.nils | exact Cl.nilp | exact Cl.rec _ | exact Cl.bat _ | exact Cl.recsV _ | exact Cl.strsV _ | exact Cl.intsV _ | exact Cl.req _ | exact Cl.rsp _ | exact Cl.reqA _ | exact Cl.rspA _ | exact Cl.batsV _ | exact Cl.getB _ | exact Cl.encA _ | exact Cl.firstA _ | refine ClL.cons ?_ ?_ | refine Cl.tup ?_ | refine Cl.agg ?_ | exact ClO.RO _ _))) (by (repeat' (first | with_reducible assumption | exact ClL.nil | exact Cl.int _ _ | exact Cl.bool _ | exact Cl.bl _ | exact Cl.bs _ | exact Cl.str _ | exact Cl.nils | exact Cl.nilp | exact Cl.rec _ | exact Cl.bat _ | exact Cl.recsV _ | exact Cl.strsV _ | exact Cl.intsV _ | exact Cl.req _ | exact Cl.rsp _ | exact Cl.reqA _ | exact Cl.rspA _ | exact Cl.batsV _ | exact Cl.getB _ | exact Cl.encA _ | exact Cl.firstA _ | refine ClL.cons ?_ ?_ | refine Cl.tup ?_ | refine Cl.agg ?_ | exact ClO.RO _ _))) ?_
        (conv => arg 4; whnf); repeat (refine ⟨rfl, ?_⟩; conv => arg 4; whnf)
        have q4 : (!decide (r = r)) = false := by simp
        refine ⟨fun h' => absurd (q4.symm.trans h') (by decide), fun _ => ?_⟩
        (conv => arg 4; whnf); repeat (refine ⟨rfl, ?_⟩; conv => arg 4; whnf)
        refine call0 (refReqSame (a := r) (b := r) (by omega)) (by (repeat' (first | with_reducible assumption | exact ClL.nil | exact Cl.int _ _ | exact Cl.bool _ | exact Cl.bl _ | exact Cl.bs _ | exact Cl.str _ | exact Cl.nils | exact Cl.nilp | exact Cl.rec _ | exact Cl.bat _ | exact Cl.recsV _ | exact Cl.strsV _ | exact Cl.intsV _ | exact Cl.req _ | exact Cl.rsp _ | exact Cl.reqA _ | exact Cl.rspA _ | exact Cl.batsV _ | exact Cl.getB _ | exact Cl.encA _ | exact Cl.firstA _ | refine ClL.cons ?_ ?_ | refine Cl.tup ?_ | refine Cl.agg ?_ | exact ClO.RO _ _))) (by (repeat' (first | with_reducible assumption | exact ClL.nil | exact Cl.int _ _ | exact Cl.bool _ | exact Cl.bl _ | exact Cl.bs _ | exact Cl.str _ | exact Cl.nils | exact Cl.nilp | exact Cl.rec _ | exact Cl.bat _ | exact Cl.recsV _ | exact Cl.strsV _ | exact Cl.intsV _ | exact Cl.req _ | exact Cl.rsp _ | exact Cl.reqA _ | exact Cl.rspA _ | exact Cl.batsV _ | exact Cl.getB _ | exact Cl.encA _ | exact Cl.firstA _ | refine ClL.cons ?_ ?_ | refine Cl.tup ?_ | refine Cl.agg ?_ | exact ClO.RO _ _))) ?_
        (conv => arg 4; whnf); repeat (refine ⟨rfl, ?_⟩; conv => arg 4; whnf)
        refine ⟨fun h' => absurd (q4.symm.trans h') (by decide), fun _ => ?_⟩
        (conv => arg 4; whnf); repeat (refine ⟨rfl, ?_⟩; conv => arg 4; whnf)
        refine holds_args (args' := [_, .int .i64 ((P.length : Int) + 1)]) ⟨Le.refl _ _, Le.of_eq (congrArg (AV.int .i64) (by rw [u8s_length, IntKind.wrap_i64]; omega)), trivial⟩ ?_
        refine call0 c3 (by (repeat' (first | with_reducible assumption | exact ClL.nil | exact Cl.int _ _ | exact Cl.bool _ | exact Cl.bl _ | exact Cl.bs _ | exact Cl.str _ | exact Cl.nils | exact Cl.nilp | exact Cl.rec _ | exact Cl.bat _ | exact Cl.recsV _ | exact Cl.strsV _ | exact Cl.intsV _ | exact Cl.req _ | exact Cl.rsp _ | exact Cl.reqA _ | exact Cl.rspA _ | exact Cl.batsV _ | exact Cl.getB _ | exact Cl.encA _ | exact Cl.firstA _ | refine ClL.cons ?_ ?_ | refine Cl.tup ?_ | refine Cl.agg ?_ | exact ClO.RO _ _))) (Cl.int _ _) ?_
        (conv => arg 4; whnf); repeat (refine ⟨rfl, ?_⟩; conv => arg 4; whnf)
        have cf2 : ((g2 == 0) != ((c : Int) == ((u8s P).length : Int))) = false := by rw [u8s_length]; exact cf
        have mf2 : (g3 == 0) = false := by simpa using mf
        have q7 : (bif (g2 == 0) != ((c : Int) == ((u8s P).length : Int)) then true else g3 == 0) = false := by rw [cf2, mf2]; rfl
        refine ⟨fun h' => absurd (q7.symm.trans h') (by decide), fun _ => ?_⟩
        (conv => arg 4; whnf); repeat (refine ⟨rfl, ?_⟩; conv => arg 4; whnf)
        refine call0 (rspEnc hs.ok (by omega)) (ClL.cons (Cl.rsp _) ClL.nil) (Cl.rspA _) ?_
        (conv => arg 4; whnf); repeat (refine ⟨rfl, ?_⟩; conv => arg 4; whnf)
        refine ⟨fun hd => ?_, fun hd => ?_⟩
        · have hd : s.chk = 0 := by simpa using hd
          have gg : s.good s.out := ⟨hd, hs.ok, (s.out_yes hd).symm⟩
          obtain ⟨Q, hQ⟩ : ∃ Q, Q = s.out := ⟨_, rfl⟩
          rw [← hQ] at gg ⊢
          have gl := rsp_len gg
          (conv => arg 4; whnf); repeat (refine ⟨rfl, ?_⟩; conv => arg 4; whnf)
          refine call0E (rspRead (p := Q) (by omega)) (by (repeat' (first | with_reducible assumption | exact ClL.nil | exact Cl.int _ _ | exact Cl.bool _ | exact Cl.bl _ | exact Cl.bs _ | exact Cl.str _ | exact Cl.nils | exact Cl.nilp | exact Cl.rec _ | exact Cl.bat _ | exact Cl.recsV _ | exact Cl.strsV _ | exact Cl.intsV _ | exact Cl.req _ | exact Cl.rsp _ | exact Cl.reqA _ | exact Cl.rspA _ | exact Cl.batsV _ | exact Cl.getB _ | exact Cl.encA _ | exact Cl.firstA _ | refine ClL.cons ?_ ?_ | refine Cl.tup ?_ | refine Cl.agg ?_ | exact ClO.RO _ _))) (fun x => Cl.tup (ClL.cons (Cl.rsp _) (ClL.cons (Cl.int _ _) ClL.nil))) fun y1 hy1 => ?_
          obtain ⟨v1, v2⟩ := hy1.2.1 s gg
          rw [v1, v2]
          (conv => arg 4; whnf); repeat (refine ⟨rfl, ?_⟩; conv => arg 4; whnf)
          refine ⟨sizeOk 1 rfl (by simp [u8s_length]; omega), ?_⟩
          (conv => arg 4; whnf); repeat (refine ⟨rfl, ?_⟩; conv => arg 4; whnf)
          refine ⟨⟨rfl, sizeOk 1 rfl (by simp [u8s_length]; omega)⟩, ?_⟩
          (conv => arg 4; whnf); repeat (refine ⟨rfl, ?_⟩; conv => arg 4; whnf)
          refine holds_args (args' := [bs (Q ++ [x])]) ⟨Le.noneOf (by simp [u8s_append, u8s]; rfl), trivial⟩ ?_
          refine call0E (rspRead (p := Q ++ [x]) (by simp; omega)) (by (repeat' (first | with_reducible assumption | exact ClL.nil | exact Cl.int _ _ | exact Cl.bool _ | exact Cl.bl _ | exact Cl.bs _ | exact Cl.str _ | exact Cl.nils | exact Cl.nilp | exact Cl.rec _ | exact Cl.bat _ | exact Cl.recsV _ | exact Cl.strsV _ | exact Cl.intsV _ | exact Cl.req _ | exact Cl.rsp _ | exact Cl.reqA _ | exact Cl.rspA _ | exact Cl.batsV _ | exact Cl.getB _ | exact Cl.encA _ | exact Cl.firstA _ | refine ClL.cons ?_ ?_ | refine Cl.tup ?_ | refine Cl.agg ?_ | exact ClO.RO _ _))) (fun x => Cl.tup (ClL.cons (Cl.rsp _) (ClL.cons (Cl.int _ _) ClL.nil))) fun y2 hy2 => ?_
          have v3 : y2.e = 2 := hy2.2.2.resolve_left fun e => by cases rsp_pre gg (hy2.1 e)
          rw [v3]
          (conv => arg 4; whnf); repeat (refine ⟨rfl, ?_⟩; conv => arg 4; whnf)
          refine ⟨fun h => absurd h (by first | (simp; done) | (simp [u8s]; done)), fun _ => ?_⟩
          conv => arg 4; whnf
          refine call0 (rspSame (a := s) (b := s) (by omega) (by omega)) (ClL.cons (Cl.rsp _) (ClL.cons (Cl.rsp _) ClL.nil)) (by (repeat' (first | with_reducible assumption | exact ClL.nil | exact Cl.int _ _ | exact Cl.bool _ | exact Cl.bl _ | exact Cl.bs _ | exact Cl.str _ | exact Cl.nils | exact Cl.nilp | exact Cl.rec _ | exact Cl.bat _ | exact Cl.recsV _ | exact Cl.strsV _ | exact Cl.intsV _ | exact Cl.req _ | exact Cl.rsp _ | exact Cl.reqA _ | exact Cl.rspA _ | exact Cl.batsV _ | exact Cl.getB _ | exact Cl.encA _ | exact Cl.firstA _ | refine ClL.cons ?_ ?_ | refine Cl.tup ?_ | refine Cl.agg ?_ | exact ClO.RO _ _))) ?_
          (conv => arg 4; whnf); repeat (refine ⟨rfl, ?_⟩; conv => arg 4; whnf)
          have q5 : (!decide (s = s)) = false := by simp
          refine ⟨fun h' => absurd (q5.symm.trans h') (by decide), fun _ => ?_⟩
          (conv => arg 4; whnf); repeat (refine ⟨rfl, ?_⟩; conv => arg 4; whnf)
          refine call0 (refRspSame (a := s) (b := s) (by omega) (by omega)) (ClL.cons (Cl.rsp _) (ClL.cons (Cl.rsp _) ClL.nil)) (by (repeat' (first | with_reducible assumption | exact ClL.nil | exact Cl.int _ _ | exact Cl.bool _ | exact Cl.bl _ | exact Cl.bs _ | exact Cl.str _ | exact Cl.nils | exact Cl.nilp | exact Cl.rec _ | exact Cl.bat _ | exact Cl.recsV _ | exact Cl.strsV _ | exact Cl.intsV _ | exact Cl.req _ | exact Cl.rsp _ | exact Cl.reqA _ | exact Cl.rspA _ | exact Cl.batsV _ | exact Cl.getB _ | exact Cl.encA _ | exact Cl.firstA _ | refine ClL.cons ?_ ?_ | refine Cl.tup ?_ | refine Cl.agg ?_ | exact ClO.RO _ _))) ?_
          (conv => arg 4; whnf); repeat (refine ⟨rfl, ?_⟩; conv => arg 4; whnf)
          have q6 : (bif !decide (s = s) then true else (2 : Int) != 2) = false := by simp
          refine ⟨fun h' => absurd (q6.symm.trans h') (by decide), fun _ => ?_⟩
          (conv => arg 4; whnf); repeat (refine ⟨rfl, ?_⟩; conv => arg 4; whnf)
          refine call0 awake20 (by (repeat' (first | with_reducible assumption | exact ClL.nil | exact Cl.int _ _ | exact Cl.bool _ | exact Cl.bl _ | exact Cl.bs _ | exact Cl.str _ | exact Cl.nils | exact Cl.nilp | exact Cl.rec _ | exact Cl.bat _ | exact Cl.recsV _ | exact Cl.strsV _ | exact Cl.intsV _ | exact Cl.req _ | exact Cl.rsp _ | exact Cl.reqA _ | exact Cl.rspA _ | exact Cl.batsV _ | exact Cl.getB _ | exact Cl.encA _ | exact Cl.firstA _ | refine ClL.cons ?_ ?_ | refine Cl.tup ?_ | refine Cl.agg ?_ | exact ClO.RO _ _))) (by (repeat' (first | with_reducible assumption | exact ClL.nil | exact Cl.int _ _ | exact Cl.bool _ | exact Cl.bl _ | exact Cl.bs _ | exact Cl.str _ | exact Cl.nils | exact Cl.nilp | exact Cl.rec _ | exact Cl.bat _ | exact Cl.recsV _ | exact Cl.strsV _ | exact Cl.intsV _ | exact Cl.req _ | exact Cl.rsp _ | exact Cl.reqA _ | exact Cl.rspA _ | exact Cl.batsV _ | exact Cl.getB _ | exact Cl.encA _ | exact Cl.firstA _ | refine ClL.cons ?_ ?_ | refine Cl.tup ?_ | refine Cl.agg ?_ | exact ClO.RO _ _))) ?_
          (conv => arg 4; whnf); repeat (refine ⟨rfl, ?_⟩; conv => arg 4; whnf)
          exact .inl rfl
        · (conv => arg 4; whnf); repeat (refine ⟨rfl, ?_⟩; conv => arg 4; whnf)
          refine call0 awake20 (by (repeat' (first | with_reducible assumption | exact ClL.nil | exact Cl.int _ _ | exact Cl.bool _ | exact Cl.bl _ | exact Cl.bs _ | exact Cl.str _ | exact Cl.nils | exact Cl.nilp | exact Cl.rec _ | exact Cl.bat _ | exact Cl.recsV _ | exact Cl.strsV _ | exact Cl.intsV _ | exact Cl.req _ | exact Cl.rsp _ | exact Cl.reqA _ | exact Cl.rspA _ | exact Cl.batsV _ | exact Cl.getB _ | exact Cl.encA _ | exact Cl.firstA _ | refine ClL.cons ?_ ?_ | refine Cl.tup ?_ | refine Cl.agg ?_ | exact ClO.RO _ _))) (by (repeat' (first | with_reducible assumption | exact ClL.nil | exact Cl.int _ _ | exact Cl.bool _ | exact Cl.bl _ | exact Cl.bs _ | exact Cl.str _ | exact Cl.nils | exact Cl.nilp | exact Cl.rec _ | exact Cl.bat _ | exact Cl.recsV _ | exact Cl.strsV _ | exact Cl.intsV _ | exact Cl.req _ | exact Cl.rsp _ | exact Cl.reqA _ | exact Cl.rspA _ | exact Cl.batsV _ | exact Cl.getB _ | exact Cl.encA _ | exact Cl.firstA _ | refine ClL.cons ?_ ?_ | refine Cl.tup ?_ | refine Cl.agg ?_ | exact ClO.RO _ _))) ?_
          (conv => arg 4; whnf); repeat (refine ⟨rfl, ?_⟩; conv => arg 4; whnf)
          exact .inl rfl
      · (conv => arg 4; whnf); repeat (refine ⟨rfl, ?_⟩; conv => arg 4; whnf)
        refine call0 (rspEnc hs.ok (by omega)) (ClL.cons (Cl.rsp _) ClL.nil) (Cl.rspA _) ?_
        (conv => arg 4; whnf); repeat (refine ⟨rfl, ?_⟩; conv => arg 4; whnf)
        refine ⟨fun hd => ?_, fun hd => ?_⟩
        · have hd : s.chk = 0 := by simpa using hd
          have gg : s.good s.out := ⟨hd, hs.ok, (s.out_yes hd).symm⟩
          obtain ⟨Q, hQ⟩ : ∃ Q, Q = s.out := ⟨_, rfl⟩
          rw [← hQ] at gg ⊢
          have gl := rsp_len gg
          (conv => arg 4; whnf); repeat (refine ⟨rfl, ?_⟩; conv => arg 4; whnf)
          refine call0E (rspRead (p := Q) (by omega)) (by (repeat' (first | with_reducible assumption | exact ClL.nil | exact Cl.int _ _ | exact Cl.bool _ | exact Cl.bl _ | exact Cl.bs _ | exact Cl.str _ | exact Cl.nils | exact Cl.nilp | exact Cl.rec _ | exact Cl.bat _ | exact Cl.recsV _ | exact Cl.strsV _ | exact Cl.intsV _ | exact Cl.req _ | exact Cl.rsp _ | exact Cl.reqA _ | exact Cl.rspA _ | exact Cl.batsV _ | exact Cl.getB _ | exact Cl.encA _ | exact Cl.firstA _ | refine ClL.cons ?_ ?_ | refine Cl.tup ?_ | refine Cl.agg ?_ | exact ClO.RO _ _))) (fun x => Cl.tup (ClL.cons (Cl.rsp _) (ClL.cons (Cl.int _ _) ClL.nil))) fun y1 hy1 => ?_
          obtain ⟨v1, v2⟩ := hy1.2.1 s gg
          rw [v1, v2]
          (conv => arg 4; whnf); repeat (refine ⟨rfl, ?_⟩; conv => arg 4; whnf)
          refine ⟨sizeOk 1 rfl (by simp [u8s_length]; omega), ?_⟩
          (conv => arg 4; whnf); repeat (refine ⟨rfl, ?_⟩; conv => arg 4; whnf)
          refine ⟨⟨rfl, sizeOk 1 rfl (by simp [u8s_length]; omega)⟩, ?_⟩
          (conv => arg 4; whnf); repeat (refine ⟨rfl, ?_⟩; conv => arg 4; whnf)
          refine holds_args (args' := [bs (Q ++ [x])]) ⟨Le.noneOf (by simp [u8s_append, u8s]; rfl), trivial⟩ ?_
          refine call0E (rspRead (p := Q ++ [x]) (by simp; omega)) (by (repeat' (first | with_reducible assumption | exact ClL.nil | exact Cl.int _ _ | exact Cl.bool _ | exact Cl.bl _ | exact Cl.bs _ | exact Cl.str _ | exact Cl.nils | exact Cl.nilp | exact Cl.rec _ | exact Cl.bat _ | exact Cl.recsV _ | exact Cl.strsV _ | exact Cl.intsV _ | exact Cl.req _ | exact Cl.rsp _ | exact Cl.reqA _ | exact Cl.rspA _ | exact Cl.batsV _ | exact Cl.getB _ | exact Cl.encA _ | exact Cl.firstA _ | refine ClL.cons ?_ ?_ | refine Cl.tup ?_ | refine Cl.agg ?_ | exact ClO.RO _ _))) (fun x => Cl.tup (ClL.cons (Cl.rsp _) (ClL.cons (Cl.int _ _) ClL.nil))) fun y2 hy2 => ?_
          have v3 : y2.e = 2 := hy2.2.2.resolve_left fun e => by cases rsp_pre gg (hy2.1 e)
          rw [v3]
          (conv => arg 4; whnf); repeat (refine ⟨rfl, ?_⟩; conv => arg 4; whnf)
          refine ⟨fun h => absurd h (by first | (simp; done) | (simp [u8s]; done)), fun _ => ?_⟩
          conv => arg 4; whnf
          refine call0 (rspSame (a := s) (b := s) (by omega) (by omega)) (ClL.cons (Cl.rsp _) (ClL.cons (Cl.rsp _) ClL.nil)) (by (repeat' (first | with_reducible assumption | exact ClL.nil | exact Cl.int _ _ | exact Cl.bool _ | exact Cl.bl _ | exact Cl.bs _ | exact Cl.str _ | exact Cl.nils | exact Cl.nilp | exact Cl.rec _ | exact Cl.bat _ | exact Cl.recsV _ | exact Cl.strsV _ | exact Cl.intsV _ | exact Cl.req _ | exact Cl.rsp _ | exact Cl.reqA _ | exact Cl.rspA _ | exact Cl.batsV _ | exact Cl.getB _ | exact Cl.encA _ | exact Cl.firstA _ | refine ClL.cons ?_ ?_ | refine Cl.tup ?_ | refine Cl.agg ?_ | exact ClO.RO _ _))) ?_
          (conv => arg 4; whnf); repeat (refine ⟨rfl, ?_⟩; conv => arg 4; whnf)
          have q5 : (!decide (s = s)) = false := by simp
          refine ⟨fun h' => absurd (q5.symm.trans h') (by decide), fun _ => ?_⟩
          (conv => arg 4; whnf); repeat (refine ⟨rfl, ?_⟩; conv => arg 4; whnf)
          refine call0 (refRspSame (a := s) (b := s) (by omega) (by omega)) (ClL.cons (Cl.rsp _) (ClL.cons (Cl.rsp _) ClL.nil)) (by (repeat' (first | with_reducible assumption | exact ClL.nil | exact Cl.int _ _ | exact Cl.bool _ | exact Cl.bl _ | exact Cl.bs _ | exact Cl.str _ | exact Cl.nils | exact Cl.nilp | exact Cl.rec _ | exact Cl.bat _ | exact Cl.recsV _ | exact Cl.strsV _ | exact Cl.intsV _ | exact Cl.req _ | exact Cl.rsp _ | exact Cl.reqA _ | exact Cl.rspA _ | exact Cl.batsV _ | exact Cl.getB _ | exact Cl.encA _ | exact Cl.firstA _ | refine ClL.cons ?_ ?_ | refine Cl.tup ?_ | refine Cl.agg ?_ | exact ClO.RO _ _))) ?_
          (conv => arg 4; whnf); repeat (refine ⟨rfl, ?_⟩; conv => arg 4; whnf)
          have q6 : (bif !decide (s = s) then true else (2 : Int) != 2) = false := by simp
          refine ⟨fun h' => absurd (q6.symm.trans h') (by decide), fun _ => ?_⟩
          (conv => arg 4; whnf); repeat (refine ⟨rfl, ?_⟩; conv => arg 4; whnf)
          refine call0 awake20 (by (repeat' (first | with_reducible assumption | exact ClL.nil | exact Cl.int _ _ | exact Cl.bool _ | exact Cl.bl _ | exact Cl.bs _ | exact Cl.str _ | exact Cl.nils | exact Cl.nilp | exact Cl.rec _ | exact Cl.bat _ | exact Cl.recsV _ | exact Cl.strsV _ | exact Cl.intsV _ | exact Cl.req _ | exact Cl.rsp _ | exact Cl.reqA _ | exact Cl.rspA _ | exact Cl.batsV _ | exact Cl.getB _ | exact Cl.encA _ | exact Cl.firstA _ | refine ClL.cons ?_ ?_ | refine Cl.tup ?_ | refine Cl.agg ?_ | exact ClO.RO _ _))) (by (repeat' (first | with_reducible assumption | exact ClL.nil | exact Cl.int _ _ | exact Cl.bool _ | exact Cl.bl _ | exact Cl.bs _ | exact Cl.str _ | exact Cl.nils | exact Cl.nilp | exact Cl.rec _ | exact Cl.bat _ | exact Cl.recsV _ | exact Cl.strsV _ | exact Cl.intsV _ | exact Cl.req _ | exact Cl.rsp _ | exact Cl.reqA _ | exact Cl.rspA _ | exact Cl.batsV _ | exact Cl.getB _ | exact Cl.encA _ | exact Cl.firstA _ | refine ClL.cons ?_ ?_ | refine Cl.tup ?_ | refine Cl.agg ?_ | exact ClO.RO _ _))) ?_
          (conv => arg 4; whnf); repeat (refine ⟨rfl, ?_⟩; conv => arg 4; whnf)
          exact .inl rfl
        · (conv => arg 4; whnf); repeat (refine ⟨rfl, ?_⟩; conv => arg 4; whnf)
          refine call0 awake20 (by (repeat' (first | with_reducible assumption | exact ClL.nil | exact Cl.int _ _ | exact Cl.bool _ | exact Cl.bl _ | exact Cl.bs _ | exact Cl.str _ | exact Cl.nils | exact Cl.nilp | exact Cl.rec _ | exact Cl.bat _ | exact Cl.recsV _ | exact Cl.strsV _ | exact Cl.intsV _ | exact Cl.req _ | exact Cl.rsp _ | exact Cl.reqA _ | exact Cl.rspA _ | exact Cl.batsV _ | exact Cl.getB _ | exact Cl.encA _ | exact Cl.firstA _ | refine ClL.cons ?_ ?_ | refine Cl.tup ?_ | refine Cl.agg ?_ | exact ClO.RO _ _))) (by (repeat' (first | with_reducible assumption | exact ClL.nil | exact Cl.int _ _ | exact Cl.bool _ | exact Cl.bl _ | exact Cl.bs _ | exact Cl.str _ | exact Cl.nils | exact Cl.nilp | exact Cl.rec _ | exact Cl.bat _ | exact Cl.recsV _ | exact Cl.strsV _ | exact Cl.intsV _ | exact Cl.req _ | exact Cl.rsp _ | exact Cl.reqA _ | exact Cl.rspA _ | exact Cl.batsV _ | exact Cl.getB _ | exact Cl.encA _ | exact Cl.firstA _ | refine ClL.cons ?_ ?_ | refine Cl.tup ?_ | refine Cl.agg ?_ | exact ClO.RO _ _))) ?_
          (conv => arg 4; whnf); repeat (refine ⟨rfl, ?_⟩; conv => arg 4; whnf)
          exact .inl rfl
end Go.Proofs.Ytbehegpahiefaaa.Pr

namespace Go.Proofs.Ytbehegpahiefaaa.Pr
set_option maxRecDepth 100000
set_option maxHeartbeats 80000000
open Go.Sym

theorem inv0 (W : World) : Inv (F0 W) V0 [] W :=
  ⟨fun b o x h => h, fun id o hg => by simp [Go.Sym.get] at hg, fun id o b off hg => by simp [Go.Sym.get] at hg, fun id id' o o' b hg => by simp [Go.Sym.get] at hg⟩
theorem bytes_lt {els : List AV} {n : Nat} (h : els.length * n ≤ reachBytes) (hn : 1 ≤ n) : els.length ≤ 1000000000000000 := by
  have : els.length * 1 ≤ els.length * n := Nat.mul_le_mul_left _ hn
  unfold reachBytes at h
  omega
theorem str_lt {s : List UInt8} (h : s.length ≤ reachBytes) : s.length ≤ 1000000000000000 := by
  unfold reachBytes at h
  omega

theorem strs_of {t : TypeId} {els : List AV} (hu : Try.prog.underlying t = some .string) (h : ∀ x ∈ els, ∃ m cs, isElem 0 x cs ∧ Sym.Good Try.prog m t cs) : ∃ l : List (List UInt8), els = strs l := by
  induction els with
  | nil => exact ⟨[], rfl⟩
  | cons x els ih =>
    obtain ⟨l, rfl⟩ := ih fun y hy => h y (List.mem_cons_of_mem _ hy)
    obtain ⟨m, cs, he, g⟩ := h x List.mem_cons_self
    obtain ⟨z, rfl, w⟩ := Sym.Good.str hu g
    simp only [isElem, if_true, List.cons.injEq, and_true] at he
    subst he
    exact ⟨z :: l, rfl⟩

theorem req_of {n : Nat} {l : List AV} (g : Sym.Good Try.prog n 58 l) : ∃ r : Req, r.fits ∧ Le [] (.agg l) r.av := by
  obtain ⟨m, g⟩ := Sym.Good.struct Try.underlying58 (by kernel_rfl) g
  obtain ⟨_, _, rfl, g1, _, _, rfl, g2, _, _, rfl, g3, _, _, rfl, g4, _, _, rfl, g5, _, _, rfl, g6, _, _, rfl, g7, _, _, rfl, g8, _, _, rfl, g9, _, _, rfl, g10, _, _, rfl, g11, _, _, rfl, g12, _, _, rfl, g13, rfl⟩ := g
  obtain ⟨x1, rfl, w1⟩ := Sym.Good.int Try.underlying3 g1
  obtain ⟨x2, rfl, w2⟩ := Sym.Good.int Try.underlying3 g2
  obtain ⟨x3, rfl, w3⟩ := Sym.Good.str Try.underlying9 g3
  obtain ⟨x4, rfl, w4⟩ := Sym.Good.str Try.underlying9 g4
  obtain ⟨x5, rfl, w5⟩ := Sym.Good.int Try.underlying3 g5
  obtain ⟨x6, rfl, w6⟩ := Sym.Good.int Try.underlying3 g6
  obtain ⟨x7, rfl, w7⟩ := Sym.Good.int Try.underlying3 g7
  obtain ⟨x8, rfl, w8⟩ := Sym.Good.int Try.underlying3 g8
  obtain ⟨x9, rfl, w9⟩ := Sym.Good.str Try.underlying9 g9
  obtain ⟨x10, rfl, w10⟩ := Sym.Good.str Try.underlying9 g10
  obtain ⟨x11, rfl, w11⟩ := Sym.Good.int Try.underlying3 g11
  obtain ⟨e12, rfl, z12, q12⟩ := Sym.Good.slice (k := 0) Try.underlying56 (by kernel_rfl) (by kernel_rfl) g12
  obtain ⟨e13, rfl, z13, q13⟩ := Sym.Good.slice (k := 0) Try.underlying25 (by kernel_rfl) (by kernel_rfl) g13
  obtain ⟨l12, rfl⟩ := strs_of Try.underlying9 q12
  obtain ⟨l13, rfl⟩ := bytes_of Try.underlying5 q13
  have hz := bytes_lt z12 (of_decide_eq_true (by kernel_rfl))
  rw [strs_length] at hz
  exact ⟨⟨x1, x2, x3, x4, x5, x6, x7, x8, x9, x10, x11, l12, l13⟩, ⟨⟨i64_of w1, i64_of w2, i64_of w5, i64_of w6, i64_of w7, i64_of w8, i64_of w11⟩, hz, str_lt w3⟩, Le.refl _ _⟩

theorem rsp_of {n : Nat} {l : List AV} (g : Sym.Good Try.prog n 71 l) : ∃ r : Rsp, r.fits ∧ Le [] (.agg l) r.av := by
  obtain ⟨m, g⟩ := Sym.Good.struct Try.underlying71 (by kernel_rfl) g
  obtain ⟨_, _, rfl, g1, _, _, rfl, g2, _, _, rfl, g3, _, _, rfl, g4, _, _, rfl, g5, _, _, rfl, g6, _, _, rfl, g7, _, _, rfl, g8, _, _, rfl, g9, _, _, rfl, g10, rfl⟩ := g
  obtain ⟨x1, rfl, w1⟩ := Sym.Good.int Try.underlying3 g1
  obtain ⟨x2, rfl, w2⟩ := Sym.Good.int Try.underlying3 g2
  obtain ⟨x3, rfl, w3⟩ := Sym.Good.int Try.underlying3 g3
  obtain ⟨x4, rfl, w4⟩ := Sym.Good.int Try.underlying3 g4
  obtain ⟨x5, rfl, w5⟩ := Sym.Good.int Try.underlying3 g5
  obtain ⟨x6, rfl, w6⟩ := Sym.Good.str Try.underlying9 g6
  obtain ⟨x7, rfl, w7⟩ := Sym.Good.str Try.underlying9 g7
  obtain ⟨e8, rfl, z8, q8⟩ := Sym.Good.slice (k := 0) Try.underlying56 (by kernel_rfl) (by kernel_rfl) g8
  obtain ⟨e9, rfl, z9, q9⟩ := Sym.Good.slice (k := 0) Try.underlying31 (by kernel_rfl) (by kernel_rfl) g9
  obtain ⟨e10, rfl, z10, q10⟩ := Sym.Good.slice (k := 0) Try.underlying25 (by kernel_rfl) (by kernel_rfl) g10
  obtain ⟨l8, rfl⟩ := strs_of Try.underlying9 q8
  obtain ⟨l9, rfl, w9⟩ := ints_of Try.underlying3 q9
  obtain ⟨l10, rfl⟩ := bytes_of Try.underlying5 q10
  have hz := bytes_lt z8 (of_decide_eq_true (by kernel_rfl))
  rw [strs_length] at hz
  exact ⟨⟨x1, x2, x3, x4, x5, x6, x7, l8, l9, l10⟩, ⟨⟨i64_of w1, i64_of w2, i64_of w3, i64_of w4, i64_of w5, w9⟩, hz, str_lt w6⟩, Le.refl _ _⟩
end Go.Proofs.Ytbehegpahiefaaa.Pr

namespace Go.Proofs.Ytbehegpahiefaaa.Pr
set_option maxRecDepth 100000
set_option maxHeartbeats 80000000
open Go.Sym

theorem bls_of {els : List AV} (h : ∀ x ∈ els, ∃ m cs, isElem 0 x cs ∧ Sym.Good Try.prog m 25 cs) : ∃ l : List (List UInt8), els = blsL l := by
  induction els with
  | nil => exact ⟨[], rfl⟩
  | cons x els ih =>
    obtain ⟨l, rfl⟩ := ih fun y hy => h y (List.mem_cons_of_mem _ hy)
    obtain ⟨m, cs, he, g⟩ := h x List.mem_cons_self
    obtain ⟨e, rfl, z, q⟩ := Sym.Good.slice (k := 0) Try.underlying25 (by kernel_rfl) (by kernel_rfl) g
    obtain ⟨b, rfl⟩ := bytes_of Try.underlying5 q
    simp only [isElem, if_true, List.cons.injEq, and_true] at he
    subst he
    exact ⟨b :: l, rfl⟩
end Go.Proofs.Ytbehegpahiefaaa.Pr

namespace Go.Proofs.Ytbehegpahiefaaa.Pr
set_option maxRecDepth 100000
set_option maxHeartbeats 80000000
open Go.Sym
theorem u8_of {a : Int} (h : (Lit.int .u8 a).wf = true) : ∃ x : UInt8, a = (x.toNat : Int) := by
  simp only [Lit.wf, Bool.and_eq_true, decide_eq_true_eq] at h
  have h0 : 0 ≤ a ∧ a ≤ 255 := h
  exact ⟨UInt8.ofNat a.toNat, by simp; omega⟩
end Go.Proofs.Ytbehegpahiefaaa.Pr
