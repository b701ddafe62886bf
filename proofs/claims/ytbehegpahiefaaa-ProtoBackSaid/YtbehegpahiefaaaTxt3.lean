/-
  The request that bytes are, as the document says.
-/
import Derived.Test.YtbehegpahiefaaaTxt2
set_option linter.unusedVariables false
set_option linter.unusedSimpArgs false
namespace Go.Proofs.Ytbehegpahiefaaa.Pr
set_option maxRecDepth 100000
set_option maxHeartbeats 80000000
open Go.Sym

structure TxX where
  l : List (List UInt8)
  r : List UInt8
  e : Int

structure TxI (b : List UInt8) (e0 : Int) (most : Nat) (n : Int) where
  i : Nat
  s : Nat
  r : List UInt8
  e : Int
  l : List (List UInt8)
  hi : (i : Int) ≤ max n 0
  hm : i ≤ most
  he : e = 0 → 0 ≤ n ∧ n ≤ most
  hl : l.length = i
  hr : r.length ≤ b.length
  h : ∀ (ns : List (List UInt8)) t, b = put ns.length ++ (textsB ns ++ t) ∧ e0 = 0 → (∀ s ∈ ns, ¬ Long s) → ns.length ≤ most → n = ns.length ∧ l = ns.take i ∧ r = textsB (ns.drop i) ++ t ∧ e = 0

theorem refTexts {b : List UInt8} {e : Int} {most : Nat} (hb : b.length ≤ 100000000000) (hm : most ≤ 1000) : CallOK Try.prog 69 [.ptr 0 0, .int .i64 most] (RH b e) 1
    (fun a h m => ∃ x : TxX, (x.r.length ≤ b.length ∧ x.l.length ≤ most ∧ ∀ (ns : List (List UInt8)) t, b = put ns.length ++ (textsB ns ++ t) ∧ e = 0 → (∀ s ∈ ns, ¬ Long s) → ns.length ≤ most → x.l = ns ∧ x.r = t ∧ x.e = 0) ∧ Out (strsV x.l) [(0, RO x.r x.e)] 1 a h m) := by
  refine CallOK.fitE (by decide) ?_
  refine callOK Try.call69 Try.func69 Try.ntmps69 rfl ?_
  conv => arg 4; whnf
  refine call1E 0 (refNum (b := b) (e := e) (by omega)) rfl rfl (ClO.RO _ _) (fun x => ClO.RO _ _) rfl (fun x => Cl.int _ _) fun x1 h1 => ?_
  have l1 := h1.2.length_le
  have nz := num_zero h1.1
  have g1 : ∀ (ns : List (List UInt8)) t, b = put ns.length ++ (textsB ns ++ t) ∧ e = 0 → ns.length ≤ most → x1.v = ns.length ∧ x1.r = textsB ns ++ t ∧ x1.e = 0 := fun ns t hh hn => step_num h1.1 hh (by unfold I64; omega)
  (conv => arg 4; whnf); repeat (refine ⟨rfl, ?_⟩; conv => arg 4; whnf)
  refine ⟨fun h => ?_, fun h => ?_⟩
  · simp only [Bool.cond_true_left, Bool.cond_false_right, Bool.or_eq_true, Bool.and_eq_true, Bool.not_eq_true', decide_eq_true_eq, beq_iff_eq, bne_iff_ne, u8s_length, Bool.not_eq_true, gt_iff_lt, ge_iff_le] at h
    (conv => arg 4; whnf); repeat (refine ⟨rfl, ?_⟩; conv => arg 4; whnf)
    refine tri_loopG (ι := TxI b e most x1.v) (fun a => ⟨[(7, .int .i64 a.i), (6, .sl (.tok 1 a.s) 0 (strs a.l)), (5, .int .i64 x1.v), (0, .ptr 0 0)], [(1, .tip a.s), (0, RO a.r a.e)], 2, 46⟩) (fun a => (x1.v - a.i).toNat) ⟨0, 0, x1.r, 2, [], by omega, by omega, fun (h : (2 : Int) = 0) => absurd h (by decide), rfl, l1, fun ns t hh _ hn => by have := g1 ns t hh hn; omega⟩ (WkG.tok rfl rfl ⟨Le.refl _ _, Le.nilsTok rfl, Le.refl _ _, Le.refl _ _, trivial⟩ ⟨⟨_, rfl, rfl⟩, ⟨_, rfl, LeO.refl _ _⟩, trivial⟩ ⟨rfl, rfl, rfl, rfl, trivial⟩ ⟨⟨by decide, rfl⟩, ⟨by decide, ClO.RO _ _ _⟩, trivial⟩) ?_
    rintro ⟨i, s, r, f, l, hi, him, hf, hll, hrl, hg⟩
    dsimp only
    conv => arg 4; whnf
    refine ⟨fun hc => ?_, fun hc => ?_⟩
    · simp only [Bool.cond_true_left, Bool.cond_false_right, Bool.or_eq_true, Bool.and_eq_true, Bool.not_eq_true', decide_eq_true_eq, beq_iff_eq, bne_iff_ne, u8s_length, Bool.not_eq_true, gt_iff_lt, ge_iff_le] at hc
      obtain ⟨hc1, hc2⟩ := hc
      subst hc2
      have hfn := hf rfl
      (conv => arg 4; whnf); repeat (refine ⟨rfl, ?_⟩; conv => arg 4; whnf)
      refine call1E 0 (refBytesR (b := r) (e := 0) (most := 100) (by omega)) rfl rfl (ClO.RO _ _) (fun x => ClO.RO _ _) rfl (fun x => Cl.bs _) fun z hz => ?_
      have lz := hz.2.1.length_le
      (conv => arg 4; whnf); repeat (refine ⟨rfl, ?_⟩; conv => arg 4; whnf)
      refine ⟨z.v, rfl, ?_⟩
      (conv => arg 4; whnf); repeat (refine ⟨rfl, ?_⟩; conv => arg 4; whnf)
      refine ⟨⟨rfl, sizeOk 16 rfl ?_⟩, ?_⟩
      · rw [List.length_append, strs_length, hll]; simp only [List.length_cons, List.length_nil]; omega
      (conv => arg 4; whnf); repeat (refine ⟨rfl, ?_⟩; conv => arg 4; whnf)
      refine ⟨⟨i + 1, s + 1, z.r, z.e, l ++ [z.v], by omega, by omega, fun _ => hfn, by rw [List.length_append, hll]; rfl, by omega, fun ns t hh hns hnm => ?_⟩, by show (x1.v - ((i + 1 : Nat) : Int)).toNat < (x1.v - (i : Int)).toNat; omega, WkG.of rfl rfl ⟨Le.of_eq (succ_i64 (by omega)), Le.of_eq (congrArg (AV.sl _ 0) (by simp [strs])), Le.refl _ _, Le.refl _ _, trivial⟩ ⟨⟨_, rfl, LeO.refl _ _⟩, ⟨_, rfl, LeO.refl _ _⟩, trivial⟩ ⟨rfl, by simp only [ren, ClL.strs _ _, renP, cut_lt (show 1 < 2 by decide)], rfl, rfl, trivial⟩ ⟨⟨by decide, rfl⟩, ⟨by decide, ClO.RO _ _ _⟩, trivial⟩⟩
      obtain ⟨q0, q1, q2, q3⟩ := hg ns t hh hns hnm
      obtain ⟨w, hw⟩ : ∃ w, ns[i]? = some w := ⟨_, List.getElem?_eq_getElem (by omega)⟩
      have hwl := hns w (List.mem_of_getElem? hw)
      unfold Long at hwl
      obtain ⟨z1, z2, z3⟩ := step_bytes (s := w) (t := textsB (ns.drop (i + 1)) ++ t) hz.1 ⟨by rw [q2, textsB_drop hw, List.append_assoc], rfl⟩ (by omega) (by omega)
      exact ⟨q0, by rw [q1, z1, List.take_add_one, hw]; rfl, z2, z3⟩
    · rw [← Bool.not_eq_true] at hc; simp only [Bool.cond_true_left, Bool.cond_false_right, Bool.or_eq_true, Bool.and_eq_true, Bool.not_eq_true', decide_eq_true_eq, beq_iff_eq, bne_iff_ne, u8s_length, gt_iff_lt, ge_iff_le] at hc
      conv => arg 4; whnf
      refine fin_exit ?_
      show holds _ _ _ _
      conv => arg 4; whnf
      refine ⟨⟨l, r, f⟩, ⟨hrl, by simp only; omega, fun ns t hh hns hnm => ?_⟩, by decide, Le.none, ⟨⟨_, rfl, LeO.refl _ _⟩, trivial⟩, (Cl.strsV _ : Cl _) _, ⟨⟨by decide, ClO.RO _ _ _⟩, trivial⟩⟩
      obtain ⟨q0, q1, q2, q3⟩ := hg ns t hh hns hnm
      have hi' : i = ns.length := by omega
      rw [hi', List.take_length] at q1
      rw [hi', List.drop_length] at q2
      exact ⟨q1, by rw [q2]; rfl, q3⟩
  · rw [← Bool.not_eq_true] at h; simp only [Bool.cond_true_left, Bool.cond_false_right, Bool.or_eq_true, Bool.and_eq_true, Bool.not_eq_true', decide_eq_true_eq, beq_iff_eq, bne_iff_ne, u8s_length, gt_iff_lt, ge_iff_le] at h
    (conv => arg 4; whnf); repeat (refine ⟨rfl, ?_⟩; conv => arg 4; whnf)
    refine tri_loopG (ι := TxI b e most x1.v) (fun a => ⟨[(7, .int .i64 a.i), (6, .sl (.tok 1 a.s) 0 (strs a.l)), (5, .int .i64 x1.v), (0, .ptr 0 0)], [(1, .tip a.s), (0, RO a.r a.e)], 2, 46⟩) (fun a => (x1.v - a.i).toNat) ⟨0, 0, x1.r, x1.e, [], by omega, by omega, fun h' => by omega, rfl, l1, fun ns t hh _ hn => by obtain ⟨q1, q2, q3⟩ := g1 ns t hh hn; exact ⟨q1, rfl, q2, q3⟩⟩ (WkG.tok rfl rfl ⟨Le.refl _ _, Le.nilsTok rfl, Le.refl _ _, Le.refl _ _, trivial⟩ ⟨⟨_, rfl, rfl⟩, ⟨_, rfl, LeO.refl _ _⟩, trivial⟩ ⟨rfl, rfl, rfl, rfl, trivial⟩ ⟨⟨by decide, rfl⟩, ⟨by decide, ClO.RO _ _ _⟩, trivial⟩) ?_
    rintro ⟨i, s, r, f, l, hi, him, hf, hll, hrl, hg⟩
    dsimp only
    conv => arg 4; whnf
    refine ⟨fun hc => ?_, fun hc => ?_⟩
    · simp only [Bool.cond_true_left, Bool.cond_false_right, Bool.or_eq_true, Bool.and_eq_true, Bool.not_eq_true', decide_eq_true_eq, beq_iff_eq, bne_iff_ne, u8s_length, Bool.not_eq_true, gt_iff_lt, ge_iff_le] at hc
      obtain ⟨hc1, hc2⟩ := hc
      subst hc2
      have hfn := hf rfl
      (conv => arg 4; whnf); repeat (refine ⟨rfl, ?_⟩; conv => arg 4; whnf)
      refine call1E 0 (refBytesR (b := r) (e := 0) (most := 100) (by omega)) rfl rfl (ClO.RO _ _) (fun x => ClO.RO _ _) rfl (fun x => Cl.bs _) fun z hz => ?_
      have lz := hz.2.1.length_le
      (conv => arg 4; whnf); repeat (refine ⟨rfl, ?_⟩; conv => arg 4; whnf)
      refine ⟨z.v, rfl, ?_⟩
      (conv => arg 4; whnf); repeat (refine ⟨rfl, ?_⟩; conv => arg 4; whnf)
      refine ⟨⟨rfl, sizeOk 16 rfl ?_⟩, ?_⟩
      · rw [List.length_append, strs_length, hll]; simp only [List.length_cons, List.length_nil]; omega
      (conv => arg 4; whnf); repeat (refine ⟨rfl, ?_⟩; conv => arg 4; whnf)
      refine ⟨⟨i + 1, s + 1, z.r, z.e, l ++ [z.v], by omega, by omega, fun _ => hfn, by rw [List.length_append, hll]; rfl, by omega, fun ns t hh hns hnm => ?_⟩, by show (x1.v - ((i + 1 : Nat) : Int)).toNat < (x1.v - (i : Int)).toNat; omega, WkG.of rfl rfl ⟨Le.of_eq (succ_i64 (by omega)), Le.of_eq (congrArg (AV.sl _ 0) (by simp [strs])), Le.refl _ _, Le.refl _ _, trivial⟩ ⟨⟨_, rfl, LeO.refl _ _⟩, ⟨_, rfl, LeO.refl _ _⟩, trivial⟩ ⟨rfl, by simp only [ren, ClL.strs _ _, renP, cut_lt (show 1 < 2 by decide)], rfl, rfl, trivial⟩ ⟨⟨by decide, rfl⟩, ⟨by decide, ClO.RO _ _ _⟩, trivial⟩⟩
      obtain ⟨q0, q1, q2, q3⟩ := hg ns t hh hns hnm
      obtain ⟨w, hw⟩ : ∃ w, ns[i]? = some w := ⟨_, List.getElem?_eq_getElem (by omega)⟩
      have hwl := hns w (List.mem_of_getElem? hw)
      unfold Long at hwl
      obtain ⟨z1, z2, z3⟩ := step_bytes (s := w) (t := textsB (ns.drop (i + 1)) ++ t) hz.1 ⟨by rw [q2, textsB_drop hw, List.append_assoc], rfl⟩ (by omega) (by omega)
      exact ⟨q0, by rw [q1, z1, List.take_add_one, hw]; rfl, z2, z3⟩
    · rw [← Bool.not_eq_true] at hc; simp only [Bool.cond_true_left, Bool.cond_false_right, Bool.or_eq_true, Bool.and_eq_true, Bool.not_eq_true', decide_eq_true_eq, beq_iff_eq, bne_iff_ne, u8s_length, gt_iff_lt, ge_iff_le] at hc
      conv => arg 4; whnf
      refine fin_exit ?_
      show holds _ _ _ _
      conv => arg 4; whnf
      refine ⟨⟨l, r, f⟩, ⟨hrl, by simp only; omega, fun ns t hh hns hnm => ?_⟩, by decide, Le.none, ⟨⟨_, rfl, LeO.refl _ _⟩, trivial⟩, (Cl.strsV _ : Cl _) _, ⟨⟨by decide, ClO.RO _ _ _⟩, trivial⟩⟩
      obtain ⟨q0, q1, q2, q3⟩ := hg ns t hh hns hnm
      have hi' : i = ns.length := by omega
      rw [hi', List.take_length] at q1
      rw [hi', List.drop_length] at q2
      exact ⟨q1, by rw [q2]; rfl, q3⟩
end Go.Proofs.Ytbehegpahiefaaa.Pr

namespace Go.Proofs.Ytbehegpahiefaaa.Pr
set_option maxRecDepth 100000
set_option maxHeartbeats 80000000
open Go.Sym

open Classical in
/-- The document's error. -/
noncomputable def decH (p : List UInt8) : Int :=
  if 131072 < p.length then 3 else if p.length < 6 then 2 else if fx p 0 2 < 1 ∨ 14 < fx p 0 2 then 16 else if ∃ r : Req, r.good p then 0 else -1

theorem txts_inj : ∀ {l l' : List (List UInt8)} {t t' : List UInt8}, l.length = l'.length → (∀ s ∈ l, ¬ Long s) → (∀ s ∈ l', ¬ Long s) → textsB l ++ t = textsB l' ++ t' → l = l' ∧ t = t'
  | [], [], t, t', _, _, _, h => ⟨rfl, by simpa [textsB] using h⟩
  | [], _ :: _, _, _, e, _, _, _ => by cases e
  | _ :: _, [], _, _, e, _, _, _ => by cases e
  | s :: l, s' :: l', t, t', e, h, h', hh => by
    have e1 : lenB s ++ (textsB l ++ t) = lenB s' ++ (textsB l' ++ t') := by simpa [textsB] using hh
    have a := h s List.mem_cons_self
    have a' := h' s' List.mem_cons_self
    unfold Long at a a'
    have c1 := bytesR_put (s := s) (r := textsB l ++ t) (most := 100) (by omega) (by omega)
    have c2 := bytesR_put (s := s') (r := textsB l' ++ t') (most := 100) (by omega) (by omega)
    unfold lenB at e1
    rw [e1, c2] at c1
    simp only [Prod.mk.injEq] at c1
    obtain ⟨q1, q2⟩ := txts_inj (by simpa using e) (fun x hx => h x (List.mem_cons_of_mem _ hx)) (fun x hx => h' x (List.mem_cons_of_mem _ hx)) c1.2.1.symm
    exact ⟨by rw [← c1.1, q1], q2⟩

theorem num_inj {n m : Int} {s t : List UInt8} (h : put n ++ s = put m ++ t) (hn : I64 n) (hm : I64 m) : n = m ∧ s = t := by
  have a := numR_put hn s
  rw [h, numR_put hm] at a
  simp only [Prod.mk.injEq] at a
  exact ⟨a.1.symm, a.2.1.symm⟩
theorem len_inj {a b s t : List UInt8} (h : lenB a ++ s = lenB b ++ t) (ha : a.length ≤ 1000000) (hb : b.length ≤ 1000000) : a = b ∧ s = t := by
  have e1 := bytesR_put (s := a) (r := s) (most := 1000000) (by omega) (by omega)
  have e2 := bytesR_put (s := b) (r := t) (most := 1000000) (by omega) (by omega)
  unfold lenB at h
  rw [h, e2] at e1
  simp only [Prod.mk.injEq] at e1
  exact ⟨e1.1.symm, e1.2.1.symm⟩

/-- Bytes are one request's. -/
theorem good_unique {a b : Req} {p : List UInt8} (ha : a.good p) (hb : b.good p) : a = b := by
  obtain ⟨-, a1, a2, a3⟩ := good_six ha
  obtain ⟨-, b1, b2, b3⟩ := good_six hb
  obtain ⟨⟨la1, la2, la3, la4, la5, la6⟩, lan⟩ := req_lens ha.c
  obtain ⟨⟨lb1, lb2, lb3, lb4, lb5, lb6⟩, lbn⟩ := req_lens hb.c
  obtain ⟨-, -, oa3, oa4, oa5, oa6, oa7⟩ := ha.o
  obtain ⟨-, -, ob3, ob4, ob5, ob6, ob7⟩ := hb.o
  have e1 : a.u1 = b.u1 := a3.symm.trans b3
  obtain ⟨f1, e2⟩ := len_inj (a := a.client) (b := b.client) e1 (by omega) (by omega)
  obtain ⟨f2, e3⟩ := len_inj (a := a.topic) (b := b.topic) e2 (by omega) (by omega)
  obtain ⟨f3, e4⟩ := num_inj (n := a.part) (m := b.part) e3 oa3 ob3
  obtain ⟨f4, e5⟩ := num_inj (n := a.off) (m := b.off) e4 oa4 ob4
  obtain ⟨f5, e6⟩ := num_inj (n := a.time) (m := b.time) e5 oa5 ob5
  obtain ⟨f6, e7⟩ := num_inj (n := a.max) (m := b.max) e6 oa6 ob6
  obtain ⟨f7, e8⟩ := len_inj (a := a.group) (b := b.group) e7 (by omega) (by omega)
  obtain ⟨f8, e9⟩ := len_inj (a := a.member) (b := b.member) e8 (by omega) (by omega)
  obtain ⟨f9, e10⟩ := num_inj (n := a.gen) (m := b.gen) e9 oa7 ob7
  obtain ⟨f10, e11⟩ := num_inj (n := (a.names.length : Int)) (m := (b.names.length : Int)) e10 (by unfold I64; omega) (by unfold I64; omega)
  obtain ⟨f11, e12⟩ := txts_inj (by omega) lan lbn e11
  obtain ⟨f12, -⟩ := len_inj (a := a.data) (b := b.data) (s := []) (t := []) (by rw [List.append_nil, List.append_nil]; exact e12) (by omega) (by omega)
  obtain ⟨_, _, _, _, _, _, _, _, _, _, _, _, _⟩ := a
  obtain ⟨_, _, _, _, _, _, _, _, _, _, _, _, _⟩ := b
  simp only at a1 a2 b1 b2 f1 f2 f3 f4 f5 f6 f7 f8 f9 f11 f12
  subst f1 f2 f3 f4 f5 f6 f7 f8 f9 f11 f12
  rw [← a1, ← a2, ← b1, ← b2]
theorem decR_is {r : Req} {p : List UInt8} (h : r.good p) : decR p = r := good_unique (decR_good ⟨r, h⟩) h

theorem refReqDec {p : List UInt8} (hl : p.length ≤ 1000000000) : CallOK Try.prog 37 [bs p] [] 0 (Out (.tup [(decR p).av, .int .i64 (corrOf p), .int .i64 (decH p)]) [] 0) := by
  refine CallOK.fit (by decide) ?_
  refine callOK Try.call37 Try.func37 Try.ntmps37 rfl ?_
  have no : ∀ h, Le h (.agg [.int .i64 0, .int .i64 0, .str [], .str [], .int .i64 0, .int .i64 0, .int .i64 0, .int .i64 0, .str [], .str [], .int .i64 0, .nils, .nils]) Req.none.av := fun h => by show Le _ _ (.agg _); (repeat' (first | with_reducible exact Le.refl _ _ | exact Le.bl | exact Le.lb | exact Le.nils | exact Le.nilsFull | exact Le.none | exact LeL.nil _ | refine LeL.cons ?_ ?_ | refine Le.tup ?_ | refine Le.agg ?_ | exact Le.refl _ _ | exact LeL.refl _ _))
  conv => arg 4; whnf
  refine ⟨fun h1 => ?_, fun h1 => ?_⟩
  · rw [u8s_length] at h1
    have h1 : 6 ≤ p.length := by simp at h1; omega
    (conv => arg 4; whnf); repeat (refine ⟨rfl, ?_⟩; conv => arg 4; whnf)
    (repeat (refine ⟨by first | (rw [u8s_length]; omega) | (simp only [u8s_length]; omega) | omega | decide, ?_⟩; conv => arg 4; whnf))
    refine call0 (getFx (P := p) (a := 2) (b := 6) (by decide)) (clFx _ _ _) (Cl.int _ _) ?_
    (conv => arg 4; whnf); repeat (refine ⟨rfl, ?_⟩; conv => arg 4; whnf)
    refine ⟨fun hc => ?_, fun hc => ?_⟩
    · have hcr : corrOf p = 0 := by unfold corrOf; simp at hc; rw [if_neg (by omega)]
      (conv => arg 4; whnf); repeat (refine ⟨rfl, ?_⟩; conv => arg 4; whnf)
      refine ⟨fun h2 => ?_, fun h2 => ?_⟩
      · rw [u8s_length] at h2
        have h2 : 131072 < p.length := by simp at h2; omega
        have hd : decR p = Req.none := decR_none fun ⟨r, hr⟩ => by have := (good_size hr).1; omega
        have hh : decH p = 3 := by unfold decH; rw [if_pos h2]
        rw [hd, hh, hcr]
        (conv => arg 4; whnf); repeat (refine ⟨rfl, ?_⟩; conv => arg 4; whnf)
        exact ⟨by decide, Le.tup (LeL.cons (no _) (LeL.refl _ _)), trivial, (by (repeat' (first | with_reducible assumption | exact ClL.nil | exact Cl.int _ _ | exact Cl.bool _ | exact Cl.bl _ | exact Cl.bs _ | exact Cl.str _ | exact Cl.nils | exact Cl.nilp | exact Cl.rec _ | exact Cl.bat _ | exact Cl.recsV _ | exact Cl.strsV _ | exact Cl.intsV _ | exact Cl.req _ | exact Cl.rsp _ | exact Cl.reqA _ | exact Cl.rspA _ | exact Cl.batsV _ | exact Cl.getB _ | exact Cl.encA _ | exact Cl.firstA _ | refine ClL.cons ?_ ?_ | refine Cl.tup ?_ | refine Cl.agg ?_ | exact ClO.RO _ _)) : Cl _) _, trivial⟩
      · rw [u8s_length] at h2
        have h2 : ¬ 131072 < p.length := by simp at h2; omega
        (conv => arg 4; whnf); repeat (refine ⟨rfl, ?_⟩; conv => arg 4; whnf)
        have q6 : decide (((u8s p).length : Int) < 6) = false := by rw [u8s_length]; simp; omega
        refine ⟨fun h' => absurd (q6.symm.trans h') (by decide), fun _ => ?_⟩
        (conv => arg 4; whnf); repeat (refine ⟨rfl, ?_⟩; conv => arg 4; whnf)
        (repeat (refine ⟨by first | (rw [u8s_length]; omega) | (simp only [u8s_length]; omega) | omega | decide, ?_⟩; conv => arg 4; whnf))
        refine call0 (getFx0 (P := p) (b := 2) (by decide)) (clFx0 _ _) (Cl.int _ _) ?_
        (conv => arg 4; whnf); repeat (refine ⟨rfl, ?_⟩; conv => arg 4; whnf)
        (repeat (refine ⟨by first | (rw [u8s_length]; omega) | (simp only [u8s_length]; omega) | omega | decide, ?_⟩; conv => arg 4; whnf))
        refine call0 (getFx (P := p) (a := 2) (b := 6) (by decide)) (clFx _ _ _) (Cl.int _ _) ?_
        (conv => arg 4; whnf); repeat (refine ⟨rfl, ?_⟩; conv => arg 4; whnf)
        refine ⟨fun h3 => ?_, fun h3 => ?_⟩
        · simp only [Bool.cond_true_left, Bool.cond_false_right, Bool.or_eq_true, Bool.and_eq_true, Bool.not_eq_true', decide_eq_true_eq, beq_iff_eq, bne_iff_ne, u8s_length, Bool.not_eq_true, gt_iff_lt, ge_iff_le] at h3
          have hd : decR p = Req.none := decR_none fun ⟨r, hr⟩ => by obtain ⟨-, -, k1, k2⟩ := good_size hr; omega
          have hh : decH p = 16 := by unfold decH; rw [if_neg h2, if_neg (by omega), if_pos h3]
          rw [hd, hh, hcr]
          (conv => arg 4; whnf); repeat (refine ⟨rfl, ?_⟩; conv => arg 4; whnf)
          exact ⟨by decide, Le.tup (LeL.cons (no _) (LeL.refl _ _)), trivial, (by (repeat' (first | with_reducible assumption | exact ClL.nil | exact Cl.int _ _ | exact Cl.bool _ | exact Cl.bl _ | exact Cl.bs _ | exact Cl.str _ | exact Cl.nils | exact Cl.nilp | exact Cl.rec _ | exact Cl.bat _ | exact Cl.recsV _ | exact Cl.strsV _ | exact Cl.intsV _ | exact Cl.req _ | exact Cl.rsp _ | exact Cl.reqA _ | exact Cl.rspA _ | exact Cl.batsV _ | exact Cl.getB _ | exact Cl.encA _ | exact Cl.firstA _ | refine ClL.cons ?_ ?_ | refine Cl.tup ?_ | refine Cl.agg ?_ | exact ClO.RO _ _)) : Cl _) _, trivial⟩
        · rw [← Bool.not_eq_true] at h3; simp only [Bool.cond_true_left, Bool.cond_false_right, Bool.or_eq_true, Bool.and_eq_true, Bool.not_eq_true', decide_eq_true_eq, beq_iff_eq, bne_iff_ne, u8s_length, gt_iff_lt, ge_iff_le] at h3
          have hdg : ∀ r : Req, r.good p → decR p = r ∧ decH p = 0 := fun r hr => ⟨decR_is hr, by unfold decH; rw [if_neg h2, if_neg (by omega), if_neg h3, if_pos ⟨r, hr⟩]⟩
          have hdn : (¬ ∃ r : Req, r.good p) → decR p = Req.none ∧ decH p = -1 := fun hn => ⟨decR_none hn, by unfold decH; rw [if_neg h2, if_neg (by omega), if_neg h3, if_neg hn]⟩
          (conv => arg 4; whnf); repeat (refine ⟨rfl, ?_⟩; conv => arg 4; whnf)
          refine ⟨by rw [u8s_length]; omega, ?_⟩
          (conv => arg 4; whnf); repeat (refine ⟨rfl, ?_⟩; conv => arg 4; whnf)
          rw [show List.drop (Int.toNat 6) (u8s p) = u8s (p.drop 6) from u8s_drop _ _]
          conv => arg 4; whnf
          refine call1E 2 (refBytesR (b := p.drop 6) (e := 0) (most := 100) (by simp; omega)) rfl rfl (ClO.RO _ _) (fun x => ClO.RO _ _) rfl (fun x => Cl.bs _) fun x3 h3 => ?_
          have l3 := h3.2.1.length_le
          rw [List.length_drop] at l3
          have g3 : ∀ y : Req, y.good p → x3.v = y.client ∧ x3.r = y.u2 ∧ x3.e = 0 := fun y hy => by
            obtain ⟨⟨q1, q2, q3, q4, q5, q6⟩, -⟩ := req_lens hy.c
            exact step_bytes (s := y.client) (t := y.u2) h3.1 ⟨(good_six hy).2.2.2, rfl⟩ (by omega) (by omega)
          clear h3
          (conv => arg 4; whnf); repeat (refine ⟨rfl, ?_⟩; conv => arg 4; whnf)
          refine ⟨x3.v, rfl, ?_⟩
          (conv => arg 4; whnf); repeat (refine ⟨rfl, ?_⟩; conv => arg 4; whnf)
          refine call1E 2 (refBytesR (b := x3.r) (e := x3.e) (most := 100) (by omega)) rfl rfl (ClO.RO _ _) (fun x => ClO.RO _ _) rfl (fun x => Cl.bs _) fun x4 h4 => ?_
          have l4 := h4.2.1.length_le
          have g4 : ∀ y : Req, y.good p → x4.v = y.topic ∧ x4.r = y.u3 ∧ x4.e = 0 := fun y hy => by
            obtain ⟨⟨q1, q2, q3, q4, q5, q6⟩, -⟩ := req_lens hy.c
            exact step_bytes (s := y.topic) (t := y.u3) h4.1 ⟨(g3 y hy).2.1, (g3 y hy).2.2⟩ (by omega) (by omega)
          clear h4
          (conv => arg 4; whnf); repeat (refine ⟨rfl, ?_⟩; conv => arg 4; whnf)
          refine ⟨x4.v, rfl, ?_⟩
          (conv => arg 4; whnf); repeat (refine ⟨rfl, ?_⟩; conv => arg 4; whnf)
          refine call1E 2 (refNum (b := x4.r) (e := x4.e) (by omega)) rfl rfl (ClO.RO _ _) (fun x => ClO.RO _ _) rfl (fun x => Cl.int _ _) fun x5 h5 => ?_
          have l5 := h5.2.length_le
          have n5 := num_i64 h5.1
          have g5 : ∀ y : Req, y.good p → x5.v = y.part ∧ x5.r = y.u4 ∧ x5.e = 0 := fun y hy => step_num (t := y.u4) h5.1 ⟨(g4 y hy).2.1, (g4 y hy).2.2⟩ hy.o.2.2.1
          clear h5
          (conv => arg 4; whnf); repeat (refine ⟨rfl, ?_⟩; conv => arg 4; whnf)
          refine call1E 2 (refNum (b := x5.r) (e := x5.e) (by omega)) rfl rfl (ClO.RO _ _) (fun x => ClO.RO _ _) rfl (fun x => Cl.int _ _) fun x6 h6 => ?_
          have l6 := h6.2.length_le
          have n6 := num_i64 h6.1
          have g6 : ∀ y : Req, y.good p → x6.v = y.off ∧ x6.r = y.u5 ∧ x6.e = 0 := fun y hy => step_num (t := y.u5) h6.1 ⟨(g5 y hy).2.1, (g5 y hy).2.2⟩ hy.o.2.2.2.1
          clear h6
          (conv => arg 4; whnf); repeat (refine ⟨rfl, ?_⟩; conv => arg 4; whnf)
          refine call1E 2 (refNum (b := x6.r) (e := x6.e) (by omega)) rfl rfl (ClO.RO _ _) (fun x => ClO.RO _ _) rfl (fun x => Cl.int _ _) fun x7 h7 => ?_
          have l7 := h7.2.length_le
          have n7 := num_i64 h7.1
          have g7 : ∀ y : Req, y.good p → x7.v = y.time ∧ x7.r = y.u6 ∧ x7.e = 0 := fun y hy => step_num (t := y.u6) h7.1 ⟨(g6 y hy).2.1, (g6 y hy).2.2⟩ hy.o.2.2.2.2.1
          clear h7
          (conv => arg 4; whnf); repeat (refine ⟨rfl, ?_⟩; conv => arg 4; whnf)
          refine call1E 2 (refNum (b := x7.r) (e := x7.e) (by omega)) rfl rfl (ClO.RO _ _) (fun x => ClO.RO _ _) rfl (fun x => Cl.int _ _) fun x8 h8 => ?_
          have l8 := h8.2.length_le
          have n8 := num_i64 h8.1
          have g8 : ∀ y : Req, y.good p → x8.v = y.max ∧ x8.r = y.u7 ∧ x8.e = 0 := fun y hy => step_num (t := y.u7) h8.1 ⟨(g7 y hy).2.1, (g7 y hy).2.2⟩ hy.o.2.2.2.2.2.1
          clear h8
          (conv => arg 4; whnf); repeat (refine ⟨rfl, ?_⟩; conv => arg 4; whnf)
          refine call1E 2 (refBytesR (b := x8.r) (e := x8.e) (most := 100) (by omega)) rfl rfl (ClO.RO _ _) (fun x => ClO.RO _ _) rfl (fun x => Cl.bs _) fun x9 h9 => ?_
          have l9 := h9.2.1.length_le
          have g9 : ∀ y : Req, y.good p → x9.v = y.group ∧ x9.r = y.u8 ∧ x9.e = 0 := fun y hy => by
            obtain ⟨⟨q1, q2, q3, q4, q5, q6⟩, -⟩ := req_lens hy.c
            exact step_bytes (s := y.group) (t := y.u8) h9.1 ⟨(g8 y hy).2.1, (g8 y hy).2.2⟩ (by omega) (by omega)
          clear h9
          (conv => arg 4; whnf); repeat (refine ⟨rfl, ?_⟩; conv => arg 4; whnf)
          refine ⟨x9.v, rfl, ?_⟩
          (conv => arg 4; whnf); repeat (refine ⟨rfl, ?_⟩; conv => arg 4; whnf)
          refine call1E 2 (refBytesR (b := x9.r) (e := x9.e) (most := 100) (by omega)) rfl rfl (ClO.RO _ _) (fun x => ClO.RO _ _) rfl (fun x => Cl.bs _) fun x10 h10 => ?_
          have l10 := h10.2.1.length_le
          have g10 : ∀ y : Req, y.good p → x10.v = y.member ∧ x10.r = y.u9 ∧ x10.e = 0 := fun y hy => by
            obtain ⟨⟨q1, q2, q3, q4, q5, q6⟩, -⟩ := req_lens hy.c
            exact step_bytes (s := y.member) (t := y.u9) h10.1 ⟨(g9 y hy).2.1, (g9 y hy).2.2⟩ (by omega) (by omega)
          clear h10
          (conv => arg 4; whnf); repeat (refine ⟨rfl, ?_⟩; conv => arg 4; whnf)
          refine ⟨x10.v, rfl, ?_⟩
          (conv => arg 4; whnf); repeat (refine ⟨rfl, ?_⟩; conv => arg 4; whnf)
          refine call1E 2 (refNum (b := x10.r) (e := x10.e) (by omega)) rfl rfl (ClO.RO _ _) (fun x => ClO.RO _ _) rfl (fun x => Cl.int _ _) fun x11 h11 => ?_
          have l11 := h11.2.length_le
          have n11 := num_i64 h11.1
          have g11 : ∀ y : Req, y.good p → x11.v = y.gen ∧ x11.r = y.u10 ∧ x11.e = 0 := fun y hy => step_num (t := y.u10) h11.1 ⟨(g10 y hy).2.1, (g10 y hy).2.2⟩ hy.o.2.2.2.2.2.2
          clear h11
          (conv => arg 4; whnf); repeat (refine ⟨rfl, ?_⟩; conv => arg 4; whnf)
          refine call1E 2 (refTexts (b := x11.r) (e := x11.e) (most := 30) (by omega) (by decide)) rfl rfl (ClO.RO _ _) (fun x => ClO.RO _ _) rfl (fun x => Cl.strsV _) fun x12 h12 => ?_
          have l12 := h12.1
          have m12 := h12.2.1
          have g12 : ∀ y : Req, y.good p → x12.l = y.names ∧ x12.r = lenB y.data ∧ x12.e = 0 := fun y hy => by
            obtain ⟨⟨q1, q2, q3, q4, q5, q6⟩, hn⟩ := req_lens hy.c
            exact h12.2.2 y.names (lenB y.data) ⟨(g11 y hy).2.1, (g11 y hy).2.2⟩ hn q5
          clear h12
          (conv => arg 4; whnf); repeat (refine ⟨rfl, ?_⟩; conv => arg 4; whnf)
          refine call1E 2 (refBytesR (b := x12.r) (e := x12.e) (most := 65536) (by omega)) rfl rfl (ClO.RO _ _) (fun x => ClO.RO _ _) rfl (fun x => Cl.bs _) fun z hz => ?_
          have gd : ∀ y : Req, y.good p → z.v = y.data ∧ z.e = 0 := fun y hy => by
            obtain ⟨⟨q1, q2, q3, q4, q5, q6⟩, hn⟩ := req_lens hy.c
            obtain ⟨z1, z2, z3⟩ := step_bytes (s := y.data) (t := []) hz.1 ⟨by rw [(g12 y hy).2.1, List.append_nil], (g12 y hy).2.2⟩ (by omega) (by omega)
            exact ⟨z1, z3⟩
          (conv => arg 4; whnf); repeat (refine ⟨rfl, ?_⟩; conv => arg 4; whnf)
          obtain ⟨X, hX⟩ : ∃ X : Req, X = ⟨fx p 0 2, fx p 2 6, x3.v, x4.v, x5.v, x6.v, x7.v, x8.v, x9.v, x10.v, x11.v, x12.l, z.v⟩ := ⟨_, rfl⟩
          have b1 := fx_lt (P := p) (a := 0) (b := 2) (by decide)
          have b2 := fx_lt (P := p) (a := 2) (b := 6) (by decide)
          have hok : X.ok := by
            rw [hX]
            exact ⟨by unfold I64; simp only; omega, by unfold I64; simp only; omega, n5, n6, n7, n8, n11⟩
          have hXl : X.names.length ≤ 1000000000000 := by rw [hX]; simp only; omega
          have hgood : ∀ y : Req, y.good p → X = y := fun y hy => by
            obtain ⟨-, k1, k2, -⟩ := good_six hy
            rw [hX, k1, k2, (g3 y hy).1, (g4 y hy).1, (g5 y hy).1, (g6 y hy).1, (g7 y hy).1, (g8 y hy).1, (g9 y hy).1, (g10 y hy).1, (g11 y hy).1, (g12 y hy).1, (gd y hy).1]
          refine holds_args (args' := [X.av]) ⟨by rw [hX]; exact Le.refl _ _, trivial⟩ ?_
          refine call0 (refReqEnc hok hXl) (by (repeat' (first | with_reducible assumption | exact ClL.nil | exact Cl.int _ _ | exact Cl.bool _ | exact Cl.bl _ | exact Cl.bs _ | exact Cl.str _ | exact Cl.nils | exact Cl.nilp | exact Cl.rec _ | exact Cl.bat _ | exact Cl.recsV _ | exact Cl.strsV _ | exact Cl.intsV _ | exact Cl.req _ | exact Cl.rsp _ | exact Cl.reqA _ | exact Cl.rspA _ | exact Cl.batsV _ | exact Cl.getB _ | exact Cl.encA _ | exact Cl.firstA _ | refine ClL.cons ?_ ?_ | refine Cl.tup ?_ | refine Cl.agg ?_ | exact ClO.RO _ _))) (by (repeat' (first | with_reducible assumption | exact ClL.nil | exact Cl.int _ _ | exact Cl.bool _ | exact Cl.bl _ | exact Cl.bs _ | exact Cl.str _ | exact Cl.nils | exact Cl.nilp | exact Cl.rec _ | exact Cl.bat _ | exact Cl.recsV _ | exact Cl.strsV _ | exact Cl.intsV _ | exact Cl.req _ | exact Cl.rsp _ | exact Cl.reqA _ | exact Cl.rspA _ | exact Cl.batsV _ | exact Cl.getB _ | exact Cl.encA _ | exact Cl.firstA _ | refine ClL.cons ?_ ?_ | refine Cl.tup ?_ | refine Cl.agg ?_ | exact ClO.RO _ _))) ?_
          (conv => arg 4; whnf); repeat (refine ⟨rfl, ?_⟩; conv => arg 4; whnf)
          refine ⟨X.out, ctxP_of rfl, ?_⟩
          conv => arg 4; whnf
          refine ⟨p, ctxP_of rfl, ?_⟩
          conv => arg 4; whnf
          refine ⟨fun h4 => ?_, fun h4 => ?_⟩
          · simp only [Bool.cond_true_left, Bool.cond_false_right, Bool.or_eq_true, Bool.and_eq_true, Bool.not_eq_true', decide_eq_true_eq, beq_iff_eq, bne_iff_ne, u8s_length, Bool.not_eq_true, gt_iff_lt, ge_iff_le] at h4
            have hn : ¬ ∃ r : Req, r.good p := fun ⟨y, hy⟩ => by
              have e := hgood y hy
              subst e
              have hz := (gd _ hy).2
              have hc := hy.c
              have he := hy.e
              rcases h4 with (h4 | h4) | h4
              · exact h4 hz
              · exact h4 hc
              · rw [Req.out_yes hc, he] at h4
                simp at h4
            obtain ⟨d1, d2⟩ := hdn hn
            rw [d1, d2, hcr]
            (conv => arg 4; whnf); repeat (refine ⟨rfl, ?_⟩; conv => arg 4; whnf)
            exact ⟨by decide, Le.tup (LeL.cons (no _) (LeL.refl _ _)), trivial, (by (repeat' (first | with_reducible assumption | exact ClL.nil | exact Cl.int _ _ | exact Cl.bool _ | exact Cl.bl _ | exact Cl.bs _ | exact Cl.str _ | exact Cl.nils | exact Cl.nilp | exact Cl.rec _ | exact Cl.bat _ | exact Cl.recsV _ | exact Cl.strsV _ | exact Cl.intsV _ | exact Cl.req _ | exact Cl.rsp _ | exact Cl.reqA _ | exact Cl.rspA _ | exact Cl.batsV _ | exact Cl.getB _ | exact Cl.encA _ | exact Cl.firstA _ | refine ClL.cons ?_ ?_ | refine Cl.tup ?_ | refine Cl.agg ?_ | exact ClO.RO _ _)) : Cl _) _, trivial⟩
          · rw [← Bool.not_eq_true] at h4; simp only [Bool.cond_true_left, Bool.cond_false_right, Bool.or_eq_true, Bool.and_eq_true, Bool.not_eq_true', decide_eq_true_eq, beq_iff_eq, bne_iff_ne, u8s_length, gt_iff_lt, ge_iff_le] at h4
            have hc : X.chk = 0 := by omega
            have he : X.enc = p := by
              have h5 : X.out = p := by
                by_cases h' : X.out = p
                · exact h'
                · exact absurd (.inr (by simpa using h')) h4
              rwa [Req.out_yes hc] at h5
            obtain ⟨d1, d2⟩ := hdg X ⟨hc, hok, he⟩
            rw [d1, d2, hcr]
            (conv => arg 4; whnf); repeat (refine ⟨rfl, ?_⟩; conv => arg 4; whnf)
            rw [hX]
            exact ⟨by decide, Le.refl _ _, trivial, (by (repeat' (first | with_reducible assumption | exact ClL.nil | exact Cl.int _ _ | exact Cl.bool _ | exact Cl.bl _ | exact Cl.bs _ | exact Cl.str _ | exact Cl.nils | exact Cl.nilp | exact Cl.rec _ | exact Cl.bat _ | exact Cl.recsV _ | exact Cl.strsV _ | exact Cl.intsV _ | exact Cl.req _ | exact Cl.rsp _ | exact Cl.reqA _ | exact Cl.rspA _ | exact Cl.batsV _ | exact Cl.getB _ | exact Cl.encA _ | exact Cl.firstA _ | refine ClL.cons ?_ ?_ | refine Cl.tup ?_ | refine Cl.agg ?_ | exact ClO.RO _ _)) : Cl _) _, trivial⟩
    · have hcr : corrOf p = fx p 2 6 := by unfold corrOf; simp at hc; rw [if_pos (by omega)]
      (conv => arg 4; whnf); repeat (refine ⟨rfl, ?_⟩; conv => arg 4; whnf)
      refine ⟨fun h2 => ?_, fun h2 => ?_⟩
      · rw [u8s_length] at h2
        have h2 : 131072 < p.length := by simp at h2; omega
        have hd : decR p = Req.none := decR_none fun ⟨r, hr⟩ => by have := (good_size hr).1; omega
        have hh : decH p = 3 := by unfold decH; rw [if_pos h2]
        rw [hd, hh, hcr]
        (conv => arg 4; whnf); repeat (refine ⟨rfl, ?_⟩; conv => arg 4; whnf)
        exact ⟨by decide, Le.tup (LeL.cons (no _) (LeL.refl _ _)), trivial, (by (repeat' (first | with_reducible assumption | exact ClL.nil | exact Cl.int _ _ | exact Cl.bool _ | exact Cl.bl _ | exact Cl.bs _ | exact Cl.str _ | exact Cl.nils | exact Cl.nilp | exact Cl.rec _ | exact Cl.bat _ | exact Cl.recsV _ | exact Cl.strsV _ | exact Cl.intsV _ | exact Cl.req _ | exact Cl.rsp _ | exact Cl.reqA _ | exact Cl.rspA _ | exact Cl.batsV _ | exact Cl.getB _ | exact Cl.encA _ | exact Cl.firstA _ | refine ClL.cons ?_ ?_ | refine Cl.tup ?_ | refine Cl.agg ?_ | exact ClO.RO _ _)) : Cl _) _, trivial⟩
      · rw [u8s_length] at h2
        have h2 : ¬ 131072 < p.length := by simp at h2; omega
        (conv => arg 4; whnf); repeat (refine ⟨rfl, ?_⟩; conv => arg 4; whnf)
        have q6 : decide (((u8s p).length : Int) < 6) = false := by rw [u8s_length]; simp; omega
        refine ⟨fun h' => absurd (q6.symm.trans h') (by decide), fun _ => ?_⟩
        (conv => arg 4; whnf); repeat (refine ⟨rfl, ?_⟩; conv => arg 4; whnf)
        (repeat (refine ⟨by first | (rw [u8s_length]; omega) | (simp only [u8s_length]; omega) | omega | decide, ?_⟩; conv => arg 4; whnf))
        refine call0 (getFx0 (P := p) (b := 2) (by decide)) (clFx0 _ _) (Cl.int _ _) ?_
        (conv => arg 4; whnf); repeat (refine ⟨rfl, ?_⟩; conv => arg 4; whnf)
        (repeat (refine ⟨by first | (rw [u8s_length]; omega) | (simp only [u8s_length]; omega) | omega | decide, ?_⟩; conv => arg 4; whnf))
        refine call0 (getFx (P := p) (a := 2) (b := 6) (by decide)) (clFx _ _ _) (Cl.int _ _) ?_
        (conv => arg 4; whnf); repeat (refine ⟨rfl, ?_⟩; conv => arg 4; whnf)
        refine ⟨fun h3 => ?_, fun h3 => ?_⟩
        · simp only [Bool.cond_true_left, Bool.cond_false_right, Bool.or_eq_true, Bool.and_eq_true, Bool.not_eq_true', decide_eq_true_eq, beq_iff_eq, bne_iff_ne, u8s_length, Bool.not_eq_true, gt_iff_lt, ge_iff_le] at h3
          have hd : decR p = Req.none := decR_none fun ⟨r, hr⟩ => by obtain ⟨-, -, k1, k2⟩ := good_size hr; omega
          have hh : decH p = 16 := by unfold decH; rw [if_neg h2, if_neg (by omega), if_pos h3]
          rw [hd, hh, hcr]
          (conv => arg 4; whnf); repeat (refine ⟨rfl, ?_⟩; conv => arg 4; whnf)
          exact ⟨by decide, Le.tup (LeL.cons (no _) (LeL.refl _ _)), trivial, (by (repeat' (first | with_reducible assumption | exact ClL.nil | exact Cl.int _ _ | exact Cl.bool _ | exact Cl.bl _ | exact Cl.bs _ | exact Cl.str _ | exact Cl.nils | exact Cl.nilp | exact Cl.rec _ | exact Cl.bat _ | exact Cl.recsV _ | exact Cl.strsV _ | exact Cl.intsV _ | exact Cl.req _ | exact Cl.rsp _ | exact Cl.reqA _ | exact Cl.rspA _ | exact Cl.batsV _ | exact Cl.getB _ | exact Cl.encA _ | exact Cl.firstA _ | refine ClL.cons ?_ ?_ | refine Cl.tup ?_ | refine Cl.agg ?_ | exact ClO.RO _ _)) : Cl _) _, trivial⟩
        · rw [← Bool.not_eq_true] at h3; simp only [Bool.cond_true_left, Bool.cond_false_right, Bool.or_eq_true, Bool.and_eq_true, Bool.not_eq_true', decide_eq_true_eq, beq_iff_eq, bne_iff_ne, u8s_length, gt_iff_lt, ge_iff_le] at h3
          have hdg : ∀ r : Req, r.good p → decR p = r ∧ decH p = 0 := fun r hr => ⟨decR_is hr, by unfold decH; rw [if_neg h2, if_neg (by omega), if_neg h3, if_pos ⟨r, hr⟩]⟩
          have hdn : (¬ ∃ r : Req, r.good p) → decR p = Req.none ∧ decH p = -1 := fun hn => ⟨decR_none hn, by unfold decH; rw [if_neg h2, if_neg (by omega), if_neg h3, if_neg hn]⟩
          (conv => arg 4; whnf); repeat (refine ⟨rfl, ?_⟩; conv => arg 4; whnf)
          refine ⟨by rw [u8s_length]; omega, ?_⟩
          (conv => arg 4; whnf); repeat (refine ⟨rfl, ?_⟩; conv => arg 4; whnf)
          rw [show List.drop (Int.toNat 6) (u8s p) = u8s (p.drop 6) from u8s_drop _ _]
          conv => arg 4; whnf
          refine call1E 2 (refBytesR (b := p.drop 6) (e := 0) (most := 100) (by simp; omega)) rfl rfl (ClO.RO _ _) (fun x => ClO.RO _ _) rfl (fun x => Cl.bs _) fun x3 h3 => ?_
          have l3 := h3.2.1.length_le
          rw [List.length_drop] at l3
          have g3 : ∀ y : Req, y.good p → x3.v = y.client ∧ x3.r = y.u2 ∧ x3.e = 0 := fun y hy => by
            obtain ⟨⟨q1, q2, q3, q4, q5, q6⟩, -⟩ := req_lens hy.c
            exact step_bytes (s := y.client) (t := y.u2) h3.1 ⟨(good_six hy).2.2.2, rfl⟩ (by omega) (by omega)
          clear h3
          (conv => arg 4; whnf); repeat (refine ⟨rfl, ?_⟩; conv => arg 4; whnf)
          refine ⟨x3.v, rfl, ?_⟩
          (conv => arg 4; whnf); repeat (refine ⟨rfl, ?_⟩; conv => arg 4; whnf)
          refine call1E 2 (refBytesR (b := x3.r) (e := x3.e) (most := 100) (by omega)) rfl rfl (ClO.RO _ _) (fun x => ClO.RO _ _) rfl (fun x => Cl.bs _) fun x4 h4 => ?_
          have l4 := h4.2.1.length_le
          have g4 : ∀ y : Req, y.good p → x4.v = y.topic ∧ x4.r = y.u3 ∧ x4.e = 0 := fun y hy => by
            obtain ⟨⟨q1, q2, q3, q4, q5, q6⟩, -⟩ := req_lens hy.c
            exact step_bytes (s := y.topic) (t := y.u3) h4.1 ⟨(g3 y hy).2.1, (g3 y hy).2.2⟩ (by omega) (by omega)
          clear h4
          (conv => arg 4; whnf); repeat (refine ⟨rfl, ?_⟩; conv => arg 4; whnf)
          refine ⟨x4.v, rfl, ?_⟩
          (conv => arg 4; whnf); repeat (refine ⟨rfl, ?_⟩; conv => arg 4; whnf)
          refine call1E 2 (refNum (b := x4.r) (e := x4.e) (by omega)) rfl rfl (ClO.RO _ _) (fun x => ClO.RO _ _) rfl (fun x => Cl.int _ _) fun x5 h5 => ?_
          have l5 := h5.2.length_le
          have n5 := num_i64 h5.1
          have g5 : ∀ y : Req, y.good p → x5.v = y.part ∧ x5.r = y.u4 ∧ x5.e = 0 := fun y hy => step_num (t := y.u4) h5.1 ⟨(g4 y hy).2.1, (g4 y hy).2.2⟩ hy.o.2.2.1
          clear h5
          (conv => arg 4; whnf); repeat (refine ⟨rfl, ?_⟩; conv => arg 4; whnf)
          refine call1E 2 (refNum (b := x5.r) (e := x5.e) (by omega)) rfl rfl (ClO.RO _ _) (fun x => ClO.RO _ _) rfl (fun x => Cl.int _ _) fun x6 h6 => ?_
          have l6 := h6.2.length_le
          have n6 := num_i64 h6.1
          have g6 : ∀ y : Req, y.good p → x6.v = y.off ∧ x6.r = y.u5 ∧ x6.e = 0 := fun y hy => step_num (t := y.u5) h6.1 ⟨(g5 y hy).2.1, (g5 y hy).2.2⟩ hy.o.2.2.2.1
          clear h6
          (conv => arg 4; whnf); repeat (refine ⟨rfl, ?_⟩; conv => arg 4; whnf)
          refine call1E 2 (refNum (b := x6.r) (e := x6.e) (by omega)) rfl rfl (ClO.RO _ _) (fun x => ClO.RO _ _) rfl (fun x => Cl.int _ _) fun x7 h7 => ?_
          have l7 := h7.2.length_le
          have n7 := num_i64 h7.1
          have g7 : ∀ y : Req, y.good p → x7.v = y.time ∧ x7.r = y.u6 ∧ x7.e = 0 := fun y hy => step_num (t := y.u6) h7.1 ⟨(g6 y hy).2.1, (g6 y hy).2.2⟩ hy.o.2.2.2.2.1
          clear h7
          (conv => arg 4; whnf); repeat (refine ⟨rfl, ?_⟩; conv => arg 4; whnf)
          refine call1E 2 (refNum (b := x7.r) (e := x7.e) (by omega)) rfl rfl (ClO.RO _ _) (fun x => ClO.RO _ _) rfl (fun x => Cl.int _ _) fun x8 h8 => ?_
          have l8 := h8.2.length_le
          have n8 := num_i64 h8.1
          have g8 : ∀ y : Req, y.good p → x8.v = y.max ∧ x8.r = y.u7 ∧ x8.e = 0 := fun y hy => step_num (t := y.u7) h8.1 ⟨(g7 y hy).2.1, (g7 y hy).2.2⟩ hy.o.2.2.2.2.2.1
          clear h8
          (conv => arg 4; whnf); repeat (refine ⟨rfl, ?_⟩; conv => arg 4; whnf)
          refine call1E 2 (refBytesR (b := x8.r) (e := x8.e) (most := 100) (by omega)) rfl rfl (ClO.RO _ _) (fun x => ClO.RO _ _) rfl (fun x => Cl.bs _) fun x9 h9 => ?_
          have l9 := h9.2.1.length_le
          have g9 : ∀ y : Req, y.good p → x9.v = y.group ∧ x9.r = y.u8 ∧ x9.e = 0 := fun y hy => by
            obtain ⟨⟨q1, q2, q3, q4, q5, q6⟩, -⟩ := req_lens hy.c
            exact step_bytes (s := y.group) (t := y.u8) h9.1 ⟨(g8 y hy).2.1, (g8 y hy).2.2⟩ (by omega) (by omega)
          clear h9
          (conv => arg 4; whnf); repeat (refine ⟨rfl, ?_⟩; conv => arg 4; whnf)
          refine ⟨x9.v, rfl, ?_⟩
          (conv => arg 4; whnf); repeat (refine ⟨rfl, ?_⟩; conv => arg 4; whnf)
          refine call1E 2 (refBytesR (b := x9.r) (e := x9.e) (most := 100) (by omega)) rfl rfl (ClO.RO _ _) (fun x => ClO.RO _ _) rfl (fun x => Cl.bs _) fun x10 h10 => ?_
          have l10 := h10.2.1.length_le
          have g10 : ∀ y : Req, y.good p → x10.v = y.member ∧ x10.r = y.u9 ∧ x10.e = 0 := fun y hy => by
            obtain ⟨⟨q1, q2, q3, q4, q5, q6⟩, -⟩ := req_lens hy.c
            exact step_bytes (s := y.member) (t := y.u9) h10.1 ⟨(g9 y hy).2.1, (g9 y hy).2.2⟩ (by omega) (by omega)
          clear h10
          (conv => arg 4; whnf); repeat (refine ⟨rfl, ?_⟩; conv => arg 4; whnf)
          refine ⟨x10.v, rfl, ?_⟩
          (conv => arg 4; whnf); repeat (refine ⟨rfl, ?_⟩; conv => arg 4; whnf)
          refine call1E 2 (refNum (b := x10.r) (e := x10.e) (by omega)) rfl rfl (ClO.RO _ _) (fun x => ClO.RO _ _) rfl (fun x => Cl.int _ _) fun x11 h11 => ?_
          have l11 := h11.2.length_le
          have n11 := num_i64 h11.1
          have g11 : ∀ y : Req, y.good p → x11.v = y.gen ∧ x11.r = y.u10 ∧ x11.e = 0 := fun y hy => step_num (t := y.u10) h11.1 ⟨(g10 y hy).2.1, (g10 y hy).2.2⟩ hy.o.2.2.2.2.2.2
          clear h11
          (conv => arg 4; whnf); repeat (refine ⟨rfl, ?_⟩; conv => arg 4; whnf)
          refine call1E 2 (refTexts (b := x11.r) (e := x11.e) (most := 30) (by omega) (by decide)) rfl rfl (ClO.RO _ _) (fun x => ClO.RO _ _) rfl (fun x => Cl.strsV _) fun x12 h12 => ?_
          have l12 := h12.1
          have m12 := h12.2.1
          have g12 : ∀ y : Req, y.good p → x12.l = y.names ∧ x12.r = lenB y.data ∧ x12.e = 0 := fun y hy => by
            obtain ⟨⟨q1, q2, q3, q4, q5, q6⟩, hn⟩ := req_lens hy.c
            exact h12.2.2 y.names (lenB y.data) ⟨(g11 y hy).2.1, (g11 y hy).2.2⟩ hn q5
          clear h12
          (conv => arg 4; whnf); repeat (refine ⟨rfl, ?_⟩; conv => arg 4; whnf)
          refine call1E 2 (refBytesR (b := x12.r) (e := x12.e) (most := 65536) (by omega)) rfl rfl (ClO.RO _ _) (fun x => ClO.RO _ _) rfl (fun x => Cl.bs _) fun z hz => ?_
          have gd : ∀ y : Req, y.good p → z.v = y.data ∧ z.e = 0 := fun y hy => by
            obtain ⟨⟨q1, q2, q3, q4, q5, q6⟩, hn⟩ := req_lens hy.c
            obtain ⟨z1, z2, z3⟩ := step_bytes (s := y.data) (t := []) hz.1 ⟨by rw [(g12 y hy).2.1, List.append_nil], (g12 y hy).2.2⟩ (by omega) (by omega)
            exact ⟨z1, z3⟩
          (conv => arg 4; whnf); repeat (refine ⟨rfl, ?_⟩; conv => arg 4; whnf)
          obtain ⟨X, hX⟩ : ∃ X : Req, X = ⟨fx p 0 2, fx p 2 6, x3.v, x4.v, x5.v, x6.v, x7.v, x8.v, x9.v, x10.v, x11.v, x12.l, z.v⟩ := ⟨_, rfl⟩
          have b1 := fx_lt (P := p) (a := 0) (b := 2) (by decide)
          have b2 := fx_lt (P := p) (a := 2) (b := 6) (by decide)
          have hok : X.ok := by
            rw [hX]
            exact ⟨by unfold I64; simp only; omega, by unfold I64; simp only; omega, n5, n6, n7, n8, n11⟩
          have hXl : X.names.length ≤ 1000000000000 := by rw [hX]; simp only; omega
          have hgood : ∀ y : Req, y.good p → X = y := fun y hy => by
            obtain ⟨-, k1, k2, -⟩ := good_six hy
            rw [hX, k1, k2, (g3 y hy).1, (g4 y hy).1, (g5 y hy).1, (g6 y hy).1, (g7 y hy).1, (g8 y hy).1, (g9 y hy).1, (g10 y hy).1, (g11 y hy).1, (g12 y hy).1, (gd y hy).1]
          refine holds_args (args' := [X.av]) ⟨by rw [hX]; exact Le.refl _ _, trivial⟩ ?_
          refine call0 (refReqEnc hok hXl) (by (repeat' (first | with_reducible assumption | exact ClL.nil | exact Cl.int _ _ | exact Cl.bool _ | exact Cl.bl _ | exact Cl.bs _ | exact Cl.str _ | exact Cl.nils | exact Cl.nilp | exact Cl.rec _ | exact Cl.bat _ | exact Cl.recsV _ | exact Cl.strsV _ | exact Cl.intsV _ | exact Cl.req _ | exact Cl.rsp _ | exact Cl.reqA _ | exact Cl.rspA _ | exact Cl.batsV _ | exact Cl.getB _ | exact Cl.encA _ | exact Cl.firstA _ | refine ClL.cons ?_ ?_ | refine Cl.tup ?_ | refine Cl.agg ?_ | exact ClO.RO _ _))) (by (repeat' (first | with_reducible assumption | exact ClL.nil | exact Cl.int _ _ | exact Cl.bool _ | exact Cl.bl _ | exact Cl.bs _ | exact Cl.str _ | exact Cl.nils | exact Cl.nilp | exact Cl.rec _ | exact Cl.bat _ | exact Cl.recsV _ | exact Cl.strsV _ | exact Cl.intsV _ | exact Cl.req _ | exact Cl.rsp _ | exact Cl.reqA _ | exact Cl.rspA _ | exact Cl.batsV _ | exact Cl.getB _ | exact Cl.encA _ | exact Cl.firstA _ | refine ClL.cons ?_ ?_ | refine Cl.tup ?_ | refine Cl.agg ?_ | exact ClO.RO _ _))) ?_
          (conv => arg 4; whnf); repeat (refine ⟨rfl, ?_⟩; conv => arg 4; whnf)
          refine ⟨X.out, ctxP_of rfl, ?_⟩
          conv => arg 4; whnf
          refine ⟨p, ctxP_of rfl, ?_⟩
          conv => arg 4; whnf
          refine ⟨fun h4 => ?_, fun h4 => ?_⟩
          · simp only [Bool.cond_true_left, Bool.cond_false_right, Bool.or_eq_true, Bool.and_eq_true, Bool.not_eq_true', decide_eq_true_eq, beq_iff_eq, bne_iff_ne, u8s_length, Bool.not_eq_true, gt_iff_lt, ge_iff_le] at h4
            have hn : ¬ ∃ r : Req, r.good p := fun ⟨y, hy⟩ => by
              have e := hgood y hy
              subst e
              have hz := (gd _ hy).2
              have hc := hy.c
              have he := hy.e
              rcases h4 with (h4 | h4) | h4
              · exact h4 hz
              · exact h4 hc
              · rw [Req.out_yes hc, he] at h4
                simp at h4
            obtain ⟨d1, d2⟩ := hdn hn
            rw [d1, d2, hcr]
            (conv => arg 4; whnf); repeat (refine ⟨rfl, ?_⟩; conv => arg 4; whnf)
            exact ⟨by decide, Le.tup (LeL.cons (no _) (LeL.refl _ _)), trivial, (by (repeat' (first | with_reducible assumption | exact ClL.nil | exact Cl.int _ _ | exact Cl.bool _ | exact Cl.bl _ | exact Cl.bs _ | exact Cl.str _ | exact Cl.nils | exact Cl.nilp | exact Cl.rec _ | exact Cl.bat _ | exact Cl.recsV _ | exact Cl.strsV _ | exact Cl.intsV _ | exact Cl.req _ | exact Cl.rsp _ | exact Cl.reqA _ | exact Cl.rspA _ | exact Cl.batsV _ | exact Cl.getB _ | exact Cl.encA _ | exact Cl.firstA _ | refine ClL.cons ?_ ?_ | refine Cl.tup ?_ | refine Cl.agg ?_ | exact ClO.RO _ _)) : Cl _) _, trivial⟩
          · rw [← Bool.not_eq_true] at h4; simp only [Bool.cond_true_left, Bool.cond_false_right, Bool.or_eq_true, Bool.and_eq_true, Bool.not_eq_true', decide_eq_true_eq, beq_iff_eq, bne_iff_ne, u8s_length, gt_iff_lt, ge_iff_le] at h4
            have hc : X.chk = 0 := by omega
            have he : X.enc = p := by
              have h5 : X.out = p := by
                by_cases h' : X.out = p
                · exact h'
                · exact absurd (.inr (by simpa using h')) h4
              rwa [Req.out_yes hc] at h5
            obtain ⟨d1, d2⟩ := hdg X ⟨hc, hok, he⟩
            rw [d1, d2, hcr]
            (conv => arg 4; whnf); repeat (refine ⟨rfl, ?_⟩; conv => arg 4; whnf)
            rw [hX]
            exact ⟨by decide, Le.refl _ _, trivial, (by (repeat' (first | with_reducible assumption | exact ClL.nil | exact Cl.int _ _ | exact Cl.bool _ | exact Cl.bl _ | exact Cl.bs _ | exact Cl.str _ | exact Cl.nils | exact Cl.nilp | exact Cl.rec _ | exact Cl.bat _ | exact Cl.recsV _ | exact Cl.strsV _ | exact Cl.intsV _ | exact Cl.req _ | exact Cl.rsp _ | exact Cl.reqA _ | exact Cl.rspA _ | exact Cl.batsV _ | exact Cl.getB _ | exact Cl.encA _ | exact Cl.firstA _ | refine ClL.cons ?_ ?_ | refine Cl.tup ?_ | refine Cl.agg ?_ | exact ClO.RO _ _)) : Cl _) _, trivial⟩
  · rw [u8s_length] at h1
    have h1 : ¬ 6 ≤ p.length := by simp at h1; omega
    have hd : decR p = Req.none := decR_none fun ⟨r, hr⟩ => by have := (good_size hr).2.1; omega
    have hc : corrOf p = 0 := by unfold corrOf; rw [if_neg (by omega)]
    have hh : decH p = 2 := by unfold decH; rw [if_neg (by omega), if_pos (by omega)]
    (conv => arg 4; whnf); repeat (refine ⟨rfl, ?_⟩; conv => arg 4; whnf)
    rw [hd, hc, hh]
    refine ⟨fun h' => absurd h' (by rw [u8s_length]; simp; omega), fun _ => ?_⟩
    (conv => arg 4; whnf); repeat (refine ⟨rfl, ?_⟩; conv => arg 4; whnf)
    have q6 : decide (((u8s p).length : Int) < 6) = true := by rw [u8s_length]; simp; omega
    refine ⟨fun _ => ?_, fun h' => absurd (q6.symm.trans h') (by decide)⟩
    (conv => arg 4; whnf); repeat (refine ⟨rfl, ?_⟩; conv => arg 4; whnf)
    exact ⟨by decide, Le.tup (LeL.cons (no _) (LeL.refl _ _)), trivial, (by (repeat' (first | with_reducible assumption | exact ClL.nil | exact Cl.int _ _ | exact Cl.bool _ | exact Cl.bl _ | exact Cl.bs _ | exact Cl.str _ | exact Cl.nils | exact Cl.nilp | exact Cl.rec _ | exact Cl.bat _ | exact Cl.recsV _ | exact Cl.strsV _ | exact Cl.intsV _ | exact Cl.req _ | exact Cl.rsp _ | exact Cl.reqA _ | exact Cl.rspA _ | exact Cl.batsV _ | exact Cl.getB _ | exact Cl.encA _ | exact Cl.firstA _ | refine ClL.cons ?_ ?_ | refine Cl.tup ?_ | refine Cl.agg ?_ | exact ClO.RO _ _)) : Cl _) _, trivial⟩
end Go.Proofs.Ytbehegpahiefaaa.Pr

namespace Go.Proofs.Ytbehegpahiefaaa.Pr
set_option maxRecDepth 100000
set_option maxHeartbeats 80000000
open Go.Sym

structure EqI {α : Type} (a b : List α) where
  i : Nat
  hi : i ≤ a.length
  h : a.take i = b.take i
theorem eq_step {α : Type} {a b : List α} {i : Nat} {x y : α} (hx : a[i]? = some x) (hy : b[i]? = some y) (h : a.take i = b.take i) (e : x = y) : a.take (i + 1) = b.take (i + 1) := by
  rw [List.take_add_one, List.take_add_one, hx, hy, h, e]
theorem ne_step {α : Type} {a b : List α} {i : Nat} {x y : α} (hx : a[i]? = some x) (hy : b[i]? = some y) (e : x ≠ y) : a ≠ b := by
  intro h; subst h; rw [hx] at hy; cases hy; exact e rfl

theorem strsEqual {a b : List (List UInt8)} (ha : a.length ≤ 1000000000) : CallOK Try.prog 71 [strsV a, strsV b] [] 0 (Out (.bool (decide (a = b))) [] 0) := by
  refine CallOK.fit (by decide) ?_
  refine callOK Try.call71 Try.func71 Try.ntmps71 rfl ?_
  conv => arg 4; whnf
  refine ⟨fun h => ?_, fun h => ?_⟩
  · have h : a.length ≠ b.length := by rw [strs_length, strs_length] at h; simp at h; omega
    (conv => arg 4; whnf); repeat (refine ⟨rfl, ?_⟩; conv => arg 4; whnf)
    refine ⟨by decide, Le.blOf ?_, trivial, (Cl.bool _) _, trivial⟩
    exact (decide_eq_false (fun e => h (by rw [e]))).symm
  · have h : a.length = b.length := by rw [strs_length, strs_length] at h; simp at h; omega
    (conv => arg 4; whnf); repeat (refine ⟨rfl, ?_⟩; conv => arg 4; whnf)
    refine tri_loopG (ι := EqI a b) (fun x => ⟨[(13, .int .i64 x.i), (12, .int .i64 a.length), (0, strsV a), (1, strsV b)], [], 0, 26⟩) (fun x => a.length - x.i) ⟨0, Nat.zero_le _, rfl⟩ (WkG.of rfl rfl ⟨Le.refl _ _, Le.of_eq (congrArg (fun n : Nat => AV.int .i64 n) (strs_length a)), Le.refl _ _, Le.refl _ _, trivial⟩ trivial ⟨rfl, rfl, Cl.strsV _ _, Cl.strsV _ _, trivial⟩ trivial) ?_
    rintro ⟨i, hi, ht⟩
    dsimp only
    conv => arg 4; whnf
    refine ⟨fun h1 => ?_, fun h1 => ?_⟩
    · have h1 : i < a.length := by simp at h1; omega
      obtain ⟨x, hx⟩ : ∃ x, a[i]? = some x := ⟨_, List.getElem?_eq_getElem h1⟩
      obtain ⟨y, hy⟩ : ∃ y, b[i]? = some y := ⟨_, List.getElem?_eq_getElem (by omega)⟩
      conv => arg 4; whnf
      refine ⟨.str x, ⟨by omega, strs_get hx⟩, ?_⟩
      conv => arg 4; whnf
      refine ⟨.str y, ⟨by omega, strs_get hy⟩, ?_⟩
      conv => arg 4; whnf
      refine ⟨fun h2 => ?_, fun h2 => ?_⟩
      · have h2 : x ≠ y := by simpa using h2
        (conv => arg 4; whnf); repeat (refine ⟨rfl, ?_⟩; conv => arg 4; whnf)
        refine ⟨by decide, Le.blOf ?_, trivial, (Cl.bool _) _, trivial⟩
        exact (decide_eq_false (ne_step hx hy h2)).symm
      · have h2 : x = y := by simpa using h2
        (conv => arg 4; whnf); repeat (refine ⟨rfl, ?_⟩; conv => arg 4; whnf)
        exact ⟨⟨i + 1, h1, eq_step hx hy ht h2⟩, by show a.length - (i + 1) < a.length - i; omega, WkG.of rfl rfl ⟨Le.of_eq (succ_i64 (by omega)), Le.refl _ _, Le.refl _ _, Le.refl _ _, trivial⟩ trivial ⟨rfl, rfl, Cl.strsV _ _, Cl.strsV _ _, trivial⟩ trivial⟩
    · have h1 : i = a.length := by simp at h1; omega
      have he : a = b := by rw [h1, List.take_length] at ht; rw [ht, h, List.take_length]
      conv => arg 4; whnf
      refine fin_exit ?_
      show holds _ _ _ _
      conv => arg 4; whnf
      refine ⟨by decide, Le.blOf ?_, trivial, (Cl.bool _) _, trivial⟩
      exact (decide_eq_true he).symm

theorem refTextsEq {a b : List (List UInt8)} (ha : a.length ≤ 1000000000) : CallOK Try.prog 70 [strsV a, strsV b] [] 0 (Out (.bool (decide (a = b))) [] 0) := by
  refine CallOK.fit (by decide) ?_
  refine callOK Try.call70 Try.func70 Try.ntmps70 rfl ?_
  conv => arg 4; whnf
  refine ⟨fun h => ?_, fun h => ?_⟩
  · have h : a.length ≠ b.length := by rw [strs_length, strs_length] at h; simp at h; omega
    (conv => arg 4; whnf); repeat (refine ⟨rfl, ?_⟩; conv => arg 4; whnf)
    refine ⟨by decide, Le.blOf ?_, trivial, (Cl.bool _) _, trivial⟩
    exact (decide_eq_false (fun e => h (by rw [e]))).symm
  · have h : a.length = b.length := by rw [strs_length, strs_length] at h; simp at h; omega
    (conv => arg 4; whnf); repeat (refine ⟨rfl, ?_⟩; conv => arg 4; whnf)
    refine tri_loopG (ι := EqI a b) (fun x => ⟨[(5, .int .i64 x.i), (0, strsV a), (1, strsV b)], [], 0, 26⟩) (fun x => a.length - x.i) ⟨0, Nat.zero_le _, rfl⟩ (WkG.of rfl rfl ⟨Le.refl _ _, Le.refl _ _, Le.refl _ _, trivial⟩ trivial ⟨rfl, Cl.strsV _ _, Cl.strsV _ _, trivial⟩ trivial) ?_
    rintro ⟨i, hi, ht⟩
    dsimp only
    conv => arg 4; whnf
    refine ⟨fun h1 => ?_, fun h1 => ?_⟩
    · have h1 : i < a.length := by rw [strs_length] at h1; simp at h1; omega
      obtain ⟨x, hx⟩ : ∃ x, a[i]? = some x := ⟨_, List.getElem?_eq_getElem h1⟩
      obtain ⟨y, hy⟩ : ∃ y, b[i]? = some y := ⟨_, List.getElem?_eq_getElem (by omega)⟩
      conv => arg 4; whnf
      refine ⟨.str x, ⟨by omega, strs_get hx⟩, ?_⟩
      conv => arg 4; whnf
      refine ⟨.str y, ⟨by omega, strs_get hy⟩, ?_⟩
      conv => arg 4; whnf
      refine ⟨fun h2 => ?_, fun h2 => ?_⟩
      · have h2 : x ≠ y := by simpa using h2
        (conv => arg 4; whnf); repeat (refine ⟨rfl, ?_⟩; conv => arg 4; whnf)
        refine ⟨by decide, Le.blOf ?_, trivial, (Cl.bool _) _, trivial⟩
        exact (decide_eq_false (ne_step hx hy h2)).symm
      · have h2 : x = y := by simpa using h2
        (conv => arg 4; whnf); repeat (refine ⟨rfl, ?_⟩; conv => arg 4; whnf)
        exact ⟨⟨i + 1, h1, eq_step hx hy ht h2⟩, by show a.length - (i + 1) < a.length - i; omega, WkG.of rfl rfl ⟨Le.of_eq (succ_i64 (by omega)), Le.refl _ _, Le.refl _ _, trivial⟩ trivial ⟨rfl, Cl.strsV _ _, Cl.strsV _ _, trivial⟩ trivial⟩
    · have h1 : i = a.length := by rw [strs_length] at h1; simp at h1; omega
      have he : a = b := by rw [h1, List.take_length] at ht; rw [ht, h, List.take_length]
      conv => arg 4; whnf
      refine fin_exit ?_
      show holds _ _ _ _
      conv => arg 4; whnf
      refine ⟨by decide, Le.blOf ?_, trivial, (Cl.bool _) _, trivial⟩
      exact (decide_eq_true he).symm

abbrev intsV (l : List Int) : AV := .sl .none 0 (ints l)
theorem intsEqual {a b : List Int} (ha : a.length ≤ 1000000000) : CallOK Try.prog 73 [intsV a, intsV b] [] 0 (Out (.bool (decide (a = b))) [] 0) := by
  refine CallOK.fit (by decide) ?_
  refine callOK Try.call73 Try.func73 Try.ntmps73 rfl ?_
  conv => arg 4; whnf
  refine ⟨fun h => ?_, fun h => ?_⟩
  · have h : a.length ≠ b.length := by rw [ints_length, ints_length] at h; simp at h; omega
    (conv => arg 4; whnf); repeat (refine ⟨rfl, ?_⟩; conv => arg 4; whnf)
    refine ⟨by decide, Le.blOf ?_, trivial, (Cl.bool _) _, trivial⟩
    exact (decide_eq_false (fun e => h (by rw [e]))).symm
  · have h : a.length = b.length := by rw [ints_length, ints_length] at h; simp at h; omega
    (conv => arg 4; whnf); repeat (refine ⟨rfl, ?_⟩; conv => arg 4; whnf)
    refine tri_loopG (ι := EqI a b) (fun x => ⟨[(13, .int .i64 x.i), (12, .int .i64 a.length), (0, intsV a), (1, intsV b)], [], 0, 26⟩) (fun x => a.length - x.i) ⟨0, Nat.zero_le _, rfl⟩ (WkG.of rfl rfl ⟨Le.refl _ _, Le.of_eq (congrArg (fun n : Nat => AV.int .i64 n) (ints_length a)), Le.refl _ _, Le.refl _ _, trivial⟩ trivial ⟨rfl, rfl, Cl.intsV _ _, Cl.intsV _ _, trivial⟩ trivial) ?_
    rintro ⟨i, hi, ht⟩
    dsimp only
    conv => arg 4; whnf
    refine ⟨fun h1 => ?_, fun h1 => ?_⟩
    · have h1 : i < a.length := by simp at h1; omega
      obtain ⟨x, hx⟩ : ∃ x, a[i]? = some x := ⟨_, List.getElem?_eq_getElem h1⟩
      obtain ⟨y, hy⟩ : ∃ y, b[i]? = some y := ⟨_, List.getElem?_eq_getElem (by omega)⟩
      conv => arg 4; whnf
      refine ⟨.int .i64 x, ⟨by omega, ints_get hx⟩, ?_⟩
      conv => arg 4; whnf
      refine ⟨.int .i64 y, ⟨by omega, ints_get hy⟩, ?_⟩
      conv => arg 4; whnf
      refine ⟨fun h2 => ?_, fun h2 => ?_⟩
      · have h2 : x ≠ y := by simpa using h2
        (conv => arg 4; whnf); repeat (refine ⟨rfl, ?_⟩; conv => arg 4; whnf)
        refine ⟨by decide, Le.blOf ?_, trivial, (Cl.bool _) _, trivial⟩
        exact (decide_eq_false (ne_step hx hy h2)).symm
      · have h2 : x = y := by simpa using h2
        (conv => arg 4; whnf); repeat (refine ⟨rfl, ?_⟩; conv => arg 4; whnf)
        exact ⟨⟨i + 1, h1, eq_step hx hy ht h2⟩, by show a.length - (i + 1) < a.length - i; omega, WkG.of rfl rfl ⟨Le.of_eq (succ_i64 (by omega)), Le.refl _ _, Le.refl _ _, Le.refl _ _, trivial⟩ trivial ⟨rfl, rfl, Cl.intsV _ _, Cl.intsV _ _, trivial⟩ trivial⟩
    · have h1 : i = a.length := by simp at h1; omega
      have he : a = b := by rw [h1, List.take_length] at ht; rw [ht, h, List.take_length]
      conv => arg 4; whnf
      refine fin_exit ?_
      show holds _ _ _ _
      conv => arg 4; whnf
      refine ⟨by decide, Le.blOf ?_, trivial, (Cl.bool _) _, trivial⟩
      exact (decide_eq_true he).symm

theorem refIntsEq {a b : List Int} (ha : a.length ≤ 1000000000) : CallOK Try.prog 74 [intsV a, intsV b] [] 0 (Out (.bool (decide (a = b))) [] 0) := by
  refine CallOK.fit (by decide) ?_
  refine callOK Try.call74 Try.func74 Try.ntmps74 rfl ?_
  conv => arg 4; whnf
  refine ⟨fun h => ?_, fun h => ?_⟩
  · have h : a.length ≠ b.length := by rw [ints_length, ints_length] at h; simp at h; omega
    (conv => arg 4; whnf); repeat (refine ⟨rfl, ?_⟩; conv => arg 4; whnf)
    refine ⟨by decide, Le.blOf ?_, trivial, (Cl.bool _) _, trivial⟩
    exact (decide_eq_false (fun e => h (by rw [e]))).symm
  · have h : a.length = b.length := by rw [ints_length, ints_length] at h; simp at h; omega
    (conv => arg 4; whnf); repeat (refine ⟨rfl, ?_⟩; conv => arg 4; whnf)
    refine tri_loopG (ι := EqI a b) (fun x => ⟨[(5, .int .i64 x.i), (0, intsV a), (1, intsV b)], [], 0, 26⟩) (fun x => a.length - x.i) ⟨0, Nat.zero_le _, rfl⟩ (WkG.of rfl rfl ⟨Le.refl _ _, Le.refl _ _, Le.refl _ _, trivial⟩ trivial ⟨rfl, Cl.intsV _ _, Cl.intsV _ _, trivial⟩ trivial) ?_
    rintro ⟨i, hi, ht⟩
    dsimp only
    conv => arg 4; whnf
    refine ⟨fun h1 => ?_, fun h1 => ?_⟩
    · have h1 : i < a.length := by rw [ints_length] at h1; simp at h1; omega
      obtain ⟨x, hx⟩ : ∃ x, a[i]? = some x := ⟨_, List.getElem?_eq_getElem h1⟩
      obtain ⟨y, hy⟩ : ∃ y, b[i]? = some y := ⟨_, List.getElem?_eq_getElem (by omega)⟩
      conv => arg 4; whnf
      refine ⟨.int .i64 x, ⟨by omega, ints_get hx⟩, ?_⟩
      conv => arg 4; whnf
      refine ⟨.int .i64 y, ⟨by omega, ints_get hy⟩, ?_⟩
      conv => arg 4; whnf
      refine ⟨fun h2 => ?_, fun h2 => ?_⟩
      · have h2 : x ≠ y := by simpa using h2
        (conv => arg 4; whnf); repeat (refine ⟨rfl, ?_⟩; conv => arg 4; whnf)
        refine ⟨by decide, Le.blOf ?_, trivial, (Cl.bool _) _, trivial⟩
        exact (decide_eq_false (ne_step hx hy h2)).symm
      · have h2 : x = y := by simpa using h2
        (conv => arg 4; whnf); repeat (refine ⟨rfl, ?_⟩; conv => arg 4; whnf)
        exact ⟨⟨i + 1, h1, eq_step hx hy ht h2⟩, by show a.length - (i + 1) < a.length - i; omega, WkG.of rfl rfl ⟨Le.of_eq (succ_i64 (by omega)), Le.refl _ _, Le.refl _ _, trivial⟩ trivial ⟨rfl, Cl.intsV _ _, Cl.intsV _ _, trivial⟩ trivial⟩
    · have h1 : i = a.length := by rw [ints_length] at h1; simp at h1; omega
      have he : a = b := by rw [h1, List.take_length] at ht; rw [ht, h, List.take_length]
      conv => arg 4; whnf
      refine fin_exit ?_
      show holds _ _ _ _
      conv => arg 4; whnf
      refine ⟨by decide, Le.blOf ?_, trivial, (Cl.bool _) _, trivial⟩
      exact (decide_eq_true he).symm


theorem req_eq {a b : Req} : decide (a = b) = (decide (a.kind = b.kind ∧ a.corr = b.corr ∧ a.client = b.client ∧ a.topic = b.topic ∧ a.part = b.part ∧ a.off = b.off ∧ a.time = b.time ∧ a.max = b.max ∧ a.gen = b.gen ∧ a.group = b.group ∧ a.member = b.member ∧ a.names = b.names ∧ a.data = b.data)) := by
  cases a; cases b
  simp only [Req.mk.injEq]
  rw [decide_eq_decide]
  constructor
  · rintro ⟨h1, h2, h3, h4, h5, h6, h7, h8, h9, h10, h11, h12, h13⟩; exact ⟨h1, h2, h3, h4, h5, h6, h7, h8, h11, h9, h10, h12, h13⟩
  · rintro ⟨h1, h2, h3, h4, h5, h6, h7, h8, h11, h9, h10, h12, h13⟩; exact ⟨h1, h2, h3, h4, h5, h6, h7, h8, h9, h10, h11, h12, h13⟩

theorem reqSame {a b : Req} (ha : a.names.length ≤ 1000000000) : CallOK Try.prog 39 [a.av, b.av] [] 0 (Out (.bool (decide (a = b))) [] 0) := by
  refine CallOK.fit (by decide) ?_
  refine callOK Try.call39 Try.func39 Try.ntmps39 rfl ?_
  rw [req_eq]
  conv => arg 4; whnf
  refine ⟨fun h => ?_, fun h => ?_⟩
  · simp only [Bool.cond_true_left, Bool.cond_false_right, Bool.or_eq_true, Bool.and_eq_true, Bool.not_eq_true', decide_eq_true_eq, beq_iff_eq, bne_iff_ne, u8s_length, Bool.not_eq_true, gt_iff_lt, ge_iff_le] at h
    (conv => arg 4; whnf); repeat (refine ⟨rfl, ?_⟩; conv => arg 4; whnf)
    refine call0 (strsEqual (a := a.names) (b := b.names) ha) (by (repeat' (first | with_reducible assumption | exact ClL.nil | exact Cl.int _ _ | exact Cl.bool _ | exact Cl.bl _ | exact Cl.bs _ | exact Cl.str _ | exact Cl.nils | exact Cl.nilp | exact Cl.rec _ | exact Cl.bat _ | exact Cl.recsV _ | exact Cl.strsV _ | exact Cl.intsV _ | exact Cl.req _ | exact Cl.rsp _ | exact Cl.reqA _ | exact Cl.rspA _ | exact Cl.batsV _ | exact Cl.getB _ | exact Cl.encA _ | exact Cl.firstA _ | refine ClL.cons ?_ ?_ | refine Cl.tup ?_ | refine Cl.agg ?_ | exact ClO.RO _ _))) (by (repeat' (first | with_reducible assumption | exact ClL.nil | exact Cl.int _ _ | exact Cl.bool _ | exact Cl.bl _ | exact Cl.bs _ | exact Cl.str _ | exact Cl.nils | exact Cl.nilp | exact Cl.rec _ | exact Cl.bat _ | exact Cl.recsV _ | exact Cl.strsV _ | exact Cl.intsV _ | exact Cl.req _ | exact Cl.rsp _ | exact Cl.reqA _ | exact Cl.rspA _ | exact Cl.batsV _ | exact Cl.getB _ | exact Cl.encA _ | exact Cl.firstA _ | refine ClL.cons ?_ ?_ | refine Cl.tup ?_ | refine Cl.agg ?_ | exact ClO.RO _ _))) ?_
    (conv => arg 4; whnf); repeat (refine ⟨rfl, ?_⟩; conv => arg 4; whnf)
    refine ⟨fun h2 => ?_, fun h2 => ?_⟩
    · have h2 : a.names = b.names := by simpa using h2
      (conv => arg 4; whnf); repeat (refine ⟨rfl, ?_⟩; conv => arg 4; whnf)
      refine call0 (bytesEqual (a := a.data) (b := b.data)) (by (repeat' (first | with_reducible assumption | exact ClL.nil | exact Cl.int _ _ | exact Cl.bool _ | exact Cl.bl _ | exact Cl.bs _ | exact Cl.str _ | exact Cl.nils | exact Cl.nilp | exact Cl.rec _ | exact Cl.bat _ | exact Cl.recsV _ | exact Cl.strsV _ | exact Cl.intsV _ | exact Cl.req _ | exact Cl.rsp _ | exact Cl.reqA _ | exact Cl.rspA _ | exact Cl.batsV _ | exact Cl.getB _ | exact Cl.encA _ | exact Cl.firstA _ | refine ClL.cons ?_ ?_ | refine Cl.tup ?_ | refine Cl.agg ?_ | exact ClO.RO _ _))) (by (repeat' (first | with_reducible assumption | exact ClL.nil | exact Cl.int _ _ | exact Cl.bool _ | exact Cl.bl _ | exact Cl.bs _ | exact Cl.str _ | exact Cl.nils | exact Cl.nilp | exact Cl.rec _ | exact Cl.bat _ | exact Cl.recsV _ | exact Cl.strsV _ | exact Cl.intsV _ | exact Cl.req _ | exact Cl.rsp _ | exact Cl.reqA _ | exact Cl.rspA _ | exact Cl.batsV _ | exact Cl.getB _ | exact Cl.encA _ | exact Cl.firstA _ | refine ClL.cons ?_ ?_ | refine Cl.tup ?_ | refine Cl.agg ?_ | exact ClO.RO _ _))) ?_
      (conv => arg 4; whnf); repeat (refine ⟨rfl, ?_⟩; conv => arg 4; whnf)
      refine ⟨by decide, Le.of_eq (congrArg AV.bool ?_), trivial, (Cl.bool _) _, trivial⟩
      by_cases h3 : a.data = b.data <;> simp [h, h2, h3]
    · have h2 : a.names ≠ b.names := by simpa using h2
      (conv => arg 4; whnf); repeat (refine ⟨rfl, ?_⟩; conv => arg 4; whnf)
      refine ⟨by decide, Le.blOf ?_, trivial, (Cl.bool _) _, trivial⟩
      simp [h2]
  · rw [← Bool.not_eq_true] at h; simp only [Bool.cond_true_left, Bool.cond_false_right, Bool.or_eq_true, Bool.and_eq_true, Bool.not_eq_true', decide_eq_true_eq, beq_iff_eq, bne_iff_ne, u8s_length, gt_iff_lt, ge_iff_le] at h
    (conv => arg 4; whnf); repeat (refine ⟨rfl, ?_⟩; conv => arg 4; whnf)
    refine ⟨by decide, Le.blOf ?_, trivial, (Cl.bool _) _, trivial⟩
    rw [eq_comm, decide_eq_false_iff_not]
    rintro ⟨h1, h2, h3, h4, h5, h6, h7, h8, h9, h10, h11, h12, h13⟩
    simp [h1, h2, h3, h4, h5, h6, h7, h8, h9, h10, h11] at h
theorem refReqSame {a b : Req} (ha : a.names.length ≤ 1000000000) : CallOK Try.prog 38 [a.av, b.av] [] 0 (Out (.bool (decide (a = b))) [] 0) := by
  refine CallOK.fit (by decide) ?_
  refine callOK Try.call38 Try.func38 Try.ntmps38 rfl ?_
  rw [req_eq]
  conv => arg 4; whnf
  refine ⟨fun h => ?_, fun h => ?_⟩
  · simp only [Bool.cond_true_left, Bool.cond_false_right, Bool.or_eq_true, Bool.and_eq_true, Bool.not_eq_true', decide_eq_true_eq, beq_iff_eq, bne_iff_ne, u8s_length, Bool.not_eq_true, gt_iff_lt, ge_iff_le] at h
    (conv => arg 4; whnf); repeat (refine ⟨rfl, ?_⟩; conv => arg 4; whnf)
    refine call0 (refTextsEq (a := a.names) (b := b.names) ha) (by (repeat' (first | with_reducible assumption | exact ClL.nil | exact Cl.int _ _ | exact Cl.bool _ | exact Cl.bl _ | exact Cl.bs _ | exact Cl.str _ | exact Cl.nils | exact Cl.nilp | exact Cl.rec _ | exact Cl.bat _ | exact Cl.recsV _ | exact Cl.strsV _ | exact Cl.intsV _ | exact Cl.req _ | exact Cl.rsp _ | exact Cl.reqA _ | exact Cl.rspA _ | exact Cl.batsV _ | exact Cl.getB _ | exact Cl.encA _ | exact Cl.firstA _ | refine ClL.cons ?_ ?_ | refine Cl.tup ?_ | refine Cl.agg ?_ | exact ClO.RO _ _))) (by (repeat' (first | with_reducible assumption | exact ClL.nil | exact Cl.int _ _ | exact Cl.bool _ | exact Cl.bl _ | exact Cl.bs _ | exact Cl.str _ | exact Cl.nils | exact Cl.nilp | exact Cl.rec _ | exact Cl.bat _ | exact Cl.recsV _ | exact Cl.strsV _ | exact Cl.intsV _ | exact Cl.req _ | exact Cl.rsp _ | exact Cl.reqA _ | exact Cl.rspA _ | exact Cl.batsV _ | exact Cl.getB _ | exact Cl.encA _ | exact Cl.firstA _ | refine ClL.cons ?_ ?_ | refine Cl.tup ?_ | refine Cl.agg ?_ | exact ClO.RO _ _))) ?_
    (conv => arg 4; whnf); repeat (refine ⟨rfl, ?_⟩; conv => arg 4; whnf)
    refine ⟨a.data, ctxP_of rfl, ?_⟩
    conv => arg 4; whnf
    refine ⟨b.data, ctxP_of rfl, ?_⟩
    conv => arg 4; whnf
    refine ⟨by decide, Le.of_eq (congrArg AV.bool ?_), trivial, (Cl.bool _) _, trivial⟩
    by_cases h2 : a.names = b.names <;> by_cases h3 : a.data = b.data <;> simp [h, h2, h3]
  · rw [← Bool.not_eq_true] at h; simp only [Bool.cond_true_left, Bool.cond_false_right, Bool.or_eq_true, Bool.and_eq_true, Bool.not_eq_true', decide_eq_true_eq, beq_iff_eq, bne_iff_ne, u8s_length, gt_iff_lt, ge_iff_le] at h
    (conv => arg 4; whnf); repeat (refine ⟨rfl, ?_⟩; conv => arg 4; whnf)
    refine ⟨by decide, Le.blOf ?_, trivial, (Cl.bool _) _, trivial⟩
    rw [eq_comm, decide_eq_false_iff_not]
    rintro ⟨h1, h2, h3, h4, h5, h6, h7, h8, h9, h10, h11, h12, h13⟩
    simp [h1, h2, h3, h4, h5, h6, h7, h8, h9, h10, h11] at h

theorem rsp_eq {a b : Rsp} : decide (a = b) = (decide (a.corr = b.corr ∧ a.code = b.code ∧ a.off = b.off ∧ a.last = b.last ∧ a.gen = b.gen ∧ a.member = b.member ∧ a.leader = b.leader ∧ a.names = b.names ∧ a.nums = b.nums ∧ a.data = b.data)) := by
  cases a; cases b
  simp only [Rsp.mk.injEq]

theorem rspSame {a b : Rsp} (ha : a.names.length ≤ 1000000000) (hn : a.nums.length ≤ 1000000000) : CallOK Try.prog 42 [a.av, b.av] [] 0 (Out (.bool (decide (a = b))) [] 0) := by
  refine CallOK.fit (by decide) ?_
  refine callOK Try.call42 Try.func42 Try.ntmps42 rfl ?_
  rw [rsp_eq]
  conv => arg 4; whnf
  refine ⟨fun h => ?_, fun h => ?_⟩
  · simp only [Bool.cond_true_left, Bool.cond_false_right, Bool.or_eq_true, Bool.and_eq_true, Bool.not_eq_true', decide_eq_true_eq, beq_iff_eq, bne_iff_ne, u8s_length, Bool.not_eq_true, gt_iff_lt, ge_iff_le] at h
    (conv => arg 4; whnf); repeat (refine ⟨rfl, ?_⟩; conv => arg 4; whnf)
    refine call0 (strsEqual (a := a.names) (b := b.names) ha) (by (repeat' (first | with_reducible assumption | exact ClL.nil | exact Cl.int _ _ | exact Cl.bool _ | exact Cl.bl _ | exact Cl.bs _ | exact Cl.str _ | exact Cl.nils | exact Cl.nilp | exact Cl.rec _ | exact Cl.bat _ | exact Cl.recsV _ | exact Cl.strsV _ | exact Cl.intsV _ | exact Cl.req _ | exact Cl.rsp _ | exact Cl.reqA _ | exact Cl.rspA _ | exact Cl.batsV _ | exact Cl.getB _ | exact Cl.encA _ | exact Cl.firstA _ | refine ClL.cons ?_ ?_ | refine Cl.tup ?_ | refine Cl.agg ?_ | exact ClO.RO _ _))) (by (repeat' (first | with_reducible assumption | exact ClL.nil | exact Cl.int _ _ | exact Cl.bool _ | exact Cl.bl _ | exact Cl.bs _ | exact Cl.str _ | exact Cl.nils | exact Cl.nilp | exact Cl.rec _ | exact Cl.bat _ | exact Cl.recsV _ | exact Cl.strsV _ | exact Cl.intsV _ | exact Cl.req _ | exact Cl.rsp _ | exact Cl.reqA _ | exact Cl.rspA _ | exact Cl.batsV _ | exact Cl.getB _ | exact Cl.encA _ | exact Cl.firstA _ | refine ClL.cons ?_ ?_ | refine Cl.tup ?_ | refine Cl.agg ?_ | exact ClO.RO _ _))) ?_
    (conv => arg 4; whnf); repeat (refine ⟨rfl, ?_⟩; conv => arg 4; whnf)
    refine ⟨fun h2 => ?_, fun h2 => ?_⟩
    · have h2 : a.names = b.names := by simpa using h2
      (conv => arg 4; whnf); repeat (refine ⟨rfl, ?_⟩; conv => arg 4; whnf)
      refine call0 (intsEqual (a := a.nums) (b := b.nums) hn) (by (repeat' (first | with_reducible assumption | exact ClL.nil | exact Cl.int _ _ | exact Cl.bool _ | exact Cl.bl _ | exact Cl.bs _ | exact Cl.str _ | exact Cl.nils | exact Cl.nilp | exact Cl.rec _ | exact Cl.bat _ | exact Cl.recsV _ | exact Cl.strsV _ | exact Cl.intsV _ | exact Cl.req _ | exact Cl.rsp _ | exact Cl.reqA _ | exact Cl.rspA _ | exact Cl.batsV _ | exact Cl.getB _ | exact Cl.encA _ | exact Cl.firstA _ | refine ClL.cons ?_ ?_ | refine Cl.tup ?_ | refine Cl.agg ?_ | exact ClO.RO _ _))) (by (repeat' (first | with_reducible assumption | exact ClL.nil | exact Cl.int _ _ | exact Cl.bool _ | exact Cl.bl _ | exact Cl.bs _ | exact Cl.str _ | exact Cl.nils | exact Cl.nilp | exact Cl.rec _ | exact Cl.bat _ | exact Cl.recsV _ | exact Cl.strsV _ | exact Cl.intsV _ | exact Cl.req _ | exact Cl.rsp _ | exact Cl.reqA _ | exact Cl.rspA _ | exact Cl.batsV _ | exact Cl.getB _ | exact Cl.encA _ | exact Cl.firstA _ | refine ClL.cons ?_ ?_ | refine Cl.tup ?_ | refine Cl.agg ?_ | exact ClO.RO _ _))) ?_
      (conv => arg 4; whnf); repeat (refine ⟨rfl, ?_⟩; conv => arg 4; whnf)
      refine ⟨fun h4 => ?_, fun h4 => ?_⟩
      · have h4 : a.nums = b.nums := by simpa using h4
        (conv => arg 4; whnf); repeat (refine ⟨rfl, ?_⟩; conv => arg 4; whnf)
        refine call0 (bytesEqual (a := a.data) (b := b.data)) (by (repeat' (first | with_reducible assumption | exact ClL.nil | exact Cl.int _ _ | exact Cl.bool _ | exact Cl.bl _ | exact Cl.bs _ | exact Cl.str _ | exact Cl.nils | exact Cl.nilp | exact Cl.rec _ | exact Cl.bat _ | exact Cl.recsV _ | exact Cl.strsV _ | exact Cl.intsV _ | exact Cl.req _ | exact Cl.rsp _ | exact Cl.reqA _ | exact Cl.rspA _ | exact Cl.batsV _ | exact Cl.getB _ | exact Cl.encA _ | exact Cl.firstA _ | refine ClL.cons ?_ ?_ | refine Cl.tup ?_ | refine Cl.agg ?_ | exact ClO.RO _ _))) (by (repeat' (first | with_reducible assumption | exact ClL.nil | exact Cl.int _ _ | exact Cl.bool _ | exact Cl.bl _ | exact Cl.bs _ | exact Cl.str _ | exact Cl.nils | exact Cl.nilp | exact Cl.rec _ | exact Cl.bat _ | exact Cl.recsV _ | exact Cl.strsV _ | exact Cl.intsV _ | exact Cl.req _ | exact Cl.rsp _ | exact Cl.reqA _ | exact Cl.rspA _ | exact Cl.batsV _ | exact Cl.getB _ | exact Cl.encA _ | exact Cl.firstA _ | refine ClL.cons ?_ ?_ | refine Cl.tup ?_ | refine Cl.agg ?_ | exact ClO.RO _ _))) ?_
        (conv => arg 4; whnf); repeat (refine ⟨rfl, ?_⟩; conv => arg 4; whnf)
        refine ⟨by decide, Le.of_eq (congrArg AV.bool ?_), trivial, (Cl.bool _) _, trivial⟩
        by_cases h3 : a.data = b.data <;> simp [h, h2, h3, h4]
      · have h4 : a.nums ≠ b.nums := by simpa using h4
        (conv => arg 4; whnf); repeat (refine ⟨rfl, ?_⟩; conv => arg 4; whnf)
        refine ⟨by decide, Le.blOf ?_, trivial, (Cl.bool _) _, trivial⟩
        simp [h4]
    · have h2 : a.names ≠ b.names := by simpa using h2
      (conv => arg 4; whnf); repeat (refine ⟨rfl, ?_⟩; conv => arg 4; whnf)
      refine ⟨by decide, Le.blOf ?_, trivial, (Cl.bool _) _, trivial⟩
      simp [h2]
  · rw [← Bool.not_eq_true] at h; simp only [Bool.cond_true_left, Bool.cond_false_right, Bool.or_eq_true, Bool.and_eq_true, Bool.not_eq_true', decide_eq_true_eq, beq_iff_eq, bne_iff_ne, u8s_length, gt_iff_lt, ge_iff_le] at h
    (conv => arg 4; whnf); repeat (refine ⟨rfl, ?_⟩; conv => arg 4; whnf)
    refine ⟨by decide, Le.blOf ?_, trivial, (Cl.bool _) _, trivial⟩
    rw [eq_comm, decide_eq_false_iff_not]
    rintro ⟨h1, h2, h3, h4, h5, h6, h7, h8, h9, h10⟩
    simp [h1, h2, h3, h4, h5, h6, h7] at h
theorem refRspSame {a b : Rsp} (ha : a.names.length ≤ 1000000000) (hn : a.nums.length ≤ 1000000000) : CallOK Try.prog 43 [a.av, b.av] [] 0 (Out (.bool (decide (a = b))) [] 0) := by
  refine CallOK.fit (by decide) ?_
  refine callOK Try.call43 Try.func43 Try.ntmps43 rfl ?_
  rw [rsp_eq]
  conv => arg 4; whnf
  refine ⟨fun h => ?_, fun h => ?_⟩
  · simp only [Bool.cond_true_left, Bool.cond_false_right, Bool.or_eq_true, Bool.and_eq_true, Bool.not_eq_true', decide_eq_true_eq, beq_iff_eq, bne_iff_ne, u8s_length, Bool.not_eq_true, gt_iff_lt, ge_iff_le] at h
    (conv => arg 4; whnf); repeat (refine ⟨rfl, ?_⟩; conv => arg 4; whnf)
    refine call0 (refTextsEq (a := a.names) (b := b.names) ha) (by (repeat' (first | with_reducible assumption | exact ClL.nil | exact Cl.int _ _ | exact Cl.bool _ | exact Cl.bl _ | exact Cl.bs _ | exact Cl.str _ | exact Cl.nils | exact Cl.nilp | exact Cl.rec _ | exact Cl.bat _ | exact Cl.recsV _ | exact Cl.strsV _ | exact Cl.intsV _ | exact Cl.req _ | exact Cl.rsp _ | exact Cl.reqA _ | exact Cl.rspA _ | exact Cl.batsV _ | exact Cl.getB _ | exact Cl.encA _ | exact Cl.firstA _ | refine ClL.cons ?_ ?_ | refine Cl.tup ?_ | refine Cl.agg ?_ | exact ClO.RO _ _))) (by (repeat' (first | with_reducible assumption | exact ClL.nil | exact Cl.int _ _ | exact Cl.bool _ | exact Cl.bl _ | exact Cl.bs _ | exact Cl.str _ | exact Cl.nils | exact Cl.nilp | exact Cl.rec _ | exact Cl.bat _ | exact Cl.recsV _ | exact Cl.strsV _ | exact Cl.intsV _ | exact Cl.req _ | exact Cl.rsp _ | exact Cl.reqA _ | exact Cl.rspA _ | exact Cl.batsV _ | exact Cl.getB _ | exact Cl.encA _ | exact Cl.firstA _ | refine ClL.cons ?_ ?_ | refine Cl.tup ?_ | refine Cl.agg ?_ | exact ClO.RO _ _))) ?_
    (conv => arg 4; whnf); repeat (refine ⟨rfl, ?_⟩; conv => arg 4; whnf)
    refine ⟨fun h2 => ?_, fun h2 => ?_⟩
    · have h2 : a.names = b.names := by simpa using h2
      (conv => arg 4; whnf); repeat (refine ⟨rfl, ?_⟩; conv => arg 4; whnf)
      refine call0 (refIntsEq (a := a.nums) (b := b.nums) hn) (by (repeat' (first | with_reducible assumption | exact ClL.nil | exact Cl.int _ _ | exact Cl.bool _ | exact Cl.bl _ | exact Cl.bs _ | exact Cl.str _ | exact Cl.nils | exact Cl.nilp | exact Cl.rec _ | exact Cl.bat _ | exact Cl.recsV _ | exact Cl.strsV _ | exact Cl.intsV _ | exact Cl.req _ | exact Cl.rsp _ | exact Cl.reqA _ | exact Cl.rspA _ | exact Cl.batsV _ | exact Cl.getB _ | exact Cl.encA _ | exact Cl.firstA _ | refine ClL.cons ?_ ?_ | refine Cl.tup ?_ | refine Cl.agg ?_ | exact ClO.RO _ _))) (by (repeat' (first | with_reducible assumption | exact ClL.nil | exact Cl.int _ _ | exact Cl.bool _ | exact Cl.bl _ | exact Cl.bs _ | exact Cl.str _ | exact Cl.nils | exact Cl.nilp | exact Cl.rec _ | exact Cl.bat _ | exact Cl.recsV _ | exact Cl.strsV _ | exact Cl.intsV _ | exact Cl.req _ | exact Cl.rsp _ | exact Cl.reqA _ | exact Cl.rspA _ | exact Cl.batsV _ | exact Cl.getB _ | exact Cl.encA _ | exact Cl.firstA _ | refine ClL.cons ?_ ?_ | refine Cl.tup ?_ | refine Cl.agg ?_ | exact ClO.RO _ _))) ?_
      (conv => arg 4; whnf); repeat (refine ⟨rfl, ?_⟩; conv => arg 4; whnf)
      refine ⟨a.data, ctxP_of rfl, ?_⟩
      conv => arg 4; whnf
      refine ⟨b.data, ctxP_of rfl, ?_⟩
      conv => arg 4; whnf
      refine ⟨by decide, Le.of_eq (congrArg AV.bool ?_), trivial, (Cl.bool _) _, trivial⟩
      by_cases h4 : a.nums = b.nums <;> by_cases h3 : a.data = b.data <;> simp [h, h2, h3, h4]
    · have h2 : a.names ≠ b.names := by simpa using h2
      (conv => arg 4; whnf); repeat (refine ⟨rfl, ?_⟩; conv => arg 4; whnf)
      refine ⟨by decide, Le.blOf ?_, trivial, (Cl.bool _) _, trivial⟩
      simp [h2]
  · rw [← Bool.not_eq_true] at h; simp only [Bool.cond_true_left, Bool.cond_false_right, Bool.or_eq_true, Bool.and_eq_true, Bool.not_eq_true', decide_eq_true_eq, beq_iff_eq, bne_iff_ne, u8s_length, gt_iff_lt, ge_iff_le] at h
    (conv => arg 4; whnf); repeat (refine ⟨rfl, ?_⟩; conv => arg 4; whnf)
    refine ⟨by decide, Le.blOf ?_, trivial, (Cl.bool _) _, trivial⟩
    rw [eq_comm, decide_eq_false_iff_not]
    rintro ⟨h1, h2, h3, h4, h5, h6, h7, h8, h9, h10⟩
    simp [h1, h2, h3, h4, h5, h6, h7] at h
end Go.Proofs.Ytbehegpahiefaaa.Pr

namespace Go.Proofs.Ytbehegpahiefaaa.Pr
set_option maxRecDepth 100000
set_option maxHeartbeats 80000000
open Go.Sym

theorem isum_range : ∀ {xs : List Int} {n : Int}, 0 ≤ n ∧ n ≤ 1099511627776 → (∀ x ∈ xs, 0 ≤ x) → 0 ≤ isum n xs ∧ isum n xs ≤ 1099511627776
  | [], n, hn, _ => hn
  | x :: r, n, hn, hx => by
    have h0 := hx x List.mem_cons_self
    unfold isum
    split
    · omega
    · exact isum_range (by omega) fun y hy => hx y (List.mem_cons_of_mem _ hy)
theorem isum_eq : ∀ {xs : List Int} {n : Int}, 0 ≤ n ∧ n ≤ 1099511627776 → (∀ x ∈ xs, 0 ≤ x) → isum n xs < 1099511627776 → isum n xs = n + xs.sum
  | [], n, hn, _, _ => by simp [isum]
  | x :: r, n, hn, hx, hl => by
    have h0 := hx x List.mem_cons_self
    unfold isum at hl ⊢
    split at hl
    · omega
    · rename_i hc
      rw [if_neg hc, isum_eq (by omega) (fun y hy => hx y (List.mem_cons_of_mem _ hy)) hl, List.sum_cons]
      omega

theorem sumB {n : Int} {x : Int} {xs : List Int} (hn : 1099511627776 < n) (hn' : n ≤ 1000000000000000000) (hx : 0 ≤ x) : CallOK Try.prog 40 [.int .i64 n, .sl .none 0 (ints (x :: xs))] [] 0 (Out (.int .i64 1099511627776) [] 0) := by
  refine callOK Try.call40 Try.func40 Try.ntmps40 rfl ?_
  conv => arg 4; whnf
  refine tri_loopG (ι := Unit) (fun _ => ⟨[(5, .int .i64 0), (0, .int .i64 n), (1, .sl .none 0 (ints (x :: xs)))], [], 0, 30⟩) (fun _ => 0) () (WkG.of rfl rfl ⟨Le.refl _ _, Le.refl _ _, Le.refl _ _, trivial⟩ trivial ⟨rfl, rfl, Cl.intsV _ _, trivial⟩ trivial) ?_
  intro _
  conv => arg 4; whnf
  have h0 : decide ((0 : Int) < ((ints (x :: xs)).length : Int)) = true := by simp [ints]
  refine ⟨fun _ => ?_, fun h' => absurd (h0.symm.trans h') (by decide)⟩
  conv => arg 4; whnf
  refine ⟨.int .i64 x, ctxP_of ⟨by omega, rfl⟩, ?_⟩
  conv => arg 4; whnf
  have h1 : decide (n > 1099511627776) = true := by simp; omega
  rw [h1]
  refine ⟨fun _ => ?_, fun h' => absurd h' (by simp)⟩
  conv => arg 4; whnf
  exact ⟨rfl, rfl, rfl⟩

/-- A weight's sum, of numbers that are none below nothing; below the limit it is their sum. -/
theorem sumE {n x : Int} {xs : List Int} (hn : 0 ≤ n ∧ n ≤ 1000000000000000000) (hx : ∀ y ∈ x :: xs, 0 ≤ y) (hl : (x :: xs).length ≤ 1000) :
    CallOK Try.prog 40 [.int .i64 n, .sl .none 0 (ints (x :: xs))] [] 0 (fun a h m => ∃ v : Int, (0 ≤ v ∧ v ≤ 1099511627776 ∧ (v < 1099511627776 → v = n + (x :: xs).sum)) ∧ Out (.int .i64 v) [] 0 a h m) := by
  by_cases h : n ≤ 1099511627776
  · exact (sum ⟨hn.1, h⟩ hx hl).mono fun _ _ _ k => ⟨_, ⟨(isum_range ⟨hn.1, h⟩ hx).1, (isum_range ⟨hn.1, h⟩ hx).2, isum_eq ⟨hn.1, h⟩ hx⟩, k⟩
  · exact (sumB (by omega) hn.2 (hx x List.mem_cons_self)).mono fun _ _ _ k => ⟨1099511627776, ⟨by omega, by omega, fun h => by omega⟩, k⟩

def wtN (l : List (List UInt8)) : Nat := (l.map fun s => 1 + s.length).sum
theorem wtN_take {l : List (List UInt8)} {i : Nat} {x : List UInt8} (h : l[i]? = some x) : wtN (l.take (i + 1)) = wtN (l.take i) + (1 + x.length) := by
  simp [wtN, List.take_add_one, h]
theorem wtN_length (l : List (List UInt8)) : l.length ≤ wtN l := by
  induction l with
  | nil => simp
  | cons y l ih => simp only [wtN, List.map_cons, List.sum_cons, List.length_cons] at ih ⊢; omega

def Req.wt (r : Req) : Nat := r.client.length + r.topic.length + r.group.length + r.member.length + r.data.length + wtN r.names
def Rsp.wt (r : Rsp) : Nat := r.member.length + r.leader.length + r.nums.length + r.data.length + wtN r.names
def Weighs (n : Int) (w : Nat) : Prop := 0 ≤ n ∧ n ≤ 1099511627776 ∧ (n ≤ 5000 → n = w)

structure WtI (w0 : Nat) (l : List (List UInt8)) where
  i : Nat
  n : Int
  hi : i ≤ l.length
  h : Weighs n (w0 + wtN (l.take i))

theorem reqWt {r : Req} (hl : r.names.length ≤ 1000000000000000) (hc : r.client.length ≤ 1000000000000000000) : CallOK Try.prog 32 [r.av] [] 0 (fun a h m => ∃ n : Int, Weighs n r.wt ∧ Out (.int .i64 n) [] 0 a h m) := by
  refine CallOK.fitE (by decide) ?_
  refine callOK Try.call32 Try.func32 Try.ntmps32 rfl ?_
  conv => arg 4; whnf
  have hx0 : ∀ y ∈ [(r.topic.length : Int), (r.group.length : Int), (r.member.length : Int), (r.data.length : Int)], 0 ≤ y := by intro y hy; simp at hy; omega
  refine holds_args (args' := [_, .sl .none 0 (ints [(r.topic.length : Int), (r.group.length : Int), (r.member.length : Int), (r.data.length : Int)])]) ⟨Le.refl _ _, Le.noneOf (by rw [u8s_length]; rfl), trivial⟩ ?_
  refine call0E (sumE ⟨by omega, by omega⟩ hx0 (by simp)) (ClL.cons (Cl.int _ _) (ClL.cons (Cl.intsV _) ClL.nil)) (fun x => by (repeat' (first | with_reducible assumption | exact ClL.nil | exact Cl.int _ _ | exact Cl.bool _ | exact Cl.bl _ | exact Cl.bs _ | exact Cl.str _ | exact Cl.nils | exact Cl.nilp | exact Cl.rec _ | exact Cl.bat _ | exact Cl.recsV _ | exact Cl.strsV _ | exact Cl.intsV _ | exact Cl.req _ | exact Cl.rsp _ | exact Cl.reqA _ | exact Cl.rspA _ | exact Cl.batsV _ | exact Cl.getB _ | exact Cl.encA _ | exact Cl.firstA _ | refine ClL.cons ?_ ?_ | refine Cl.tup ?_ | refine Cl.agg ?_ | exact ClO.RO _ _))) fun v0 hv => ?_
  (conv => arg 4; whnf); repeat (refine ⟨rfl, ?_⟩; conv => arg 4; whnf)
  have hs0 : Weighs v0 (r.client.length + r.topic.length + r.group.length + r.member.length + r.data.length + wtN (r.names.take 0)) := ⟨hv.1, hv.2.1, fun h => by
    have := hv.2.2 (by omega)
    simp only [List.sum_cons, List.sum_nil] at this
    simp [wtN]
    omega⟩
  refine tri_loopG (ι := WtI (r.client.length + r.topic.length + r.group.length + r.member.length + r.data.length) r.names) (fun a => ⟨[(4, .int .i64 a.i), (3, .int .i64 a.n), (1, .ptr 0 0)], [(0, reqO r)], 1, 43⟩) (fun a => r.names.length - a.i) ⟨0, v0, Nat.zero_le _, hs0⟩ (WkG.of rfl rfl ⟨Le.refl _ _, Le.refl _ _, Le.refl _ _, trivial⟩ ⟨⟨_, rfl, LeO.refl _ _⟩, trivial⟩ ⟨rfl, rfl, rfl, trivial⟩ ⟨⟨by decide, ClO.reqO _ _⟩, trivial⟩) ?_
  rintro ⟨i, n, hi, hw⟩
  obtain ⟨hw1, hw2, hw3⟩ := hw
  dsimp only
  conv => arg 4; whnf
  refine ⟨fun h => ?_, fun h => ?_⟩
  · rw [strs_length] at h
    simp only [Bool.cond_true_left, Bool.cond_false_right, Bool.or_eq_true, Bool.and_eq_true, Bool.not_eq_true', decide_eq_true_eq, beq_iff_eq, bne_iff_ne, u8s_length, Bool.not_eq_true, gt_iff_lt, ge_iff_le] at h
    have h : i < r.names.length := by omega
    obtain ⟨x, hx⟩ : ∃ x, r.names[i]? = some x := ⟨_, List.getElem?_eq_getElem h⟩
    have ht := wtN_take hx
    (conv => arg 4; whnf); repeat (refine ⟨rfl, ?_⟩; conv => arg 4; whnf)
    refine ⟨.str x, ⟨by omega, strs_get hx⟩, ?_⟩
    (conv => arg 4; whnf); repeat (refine ⟨rfl, ?_⟩; conv => arg 4; whnf)
    have hx1 : ∀ y ∈ [1, (x.length : Int)], 0 ≤ y := by intro y hy; simp at hy; omega
    refine holds_args (args' := [_, .sl .none 0 (ints [1, (x.length : Int)])]) ⟨Le.refl _ _, Le.noneOf rfl, trivial⟩ ?_
    refine call0E (sumE ⟨by omega, by omega⟩ hx1 (by simp)) (ClL.cons (Cl.int _ _) (ClL.cons (Cl.intsV _) ClL.nil)) (fun x => by (repeat' (first | with_reducible assumption | exact ClL.nil | exact Cl.int _ _ | exact Cl.bool _ | exact Cl.bl _ | exact Cl.bs _ | exact Cl.str _ | exact Cl.nils | exact Cl.nilp | exact Cl.rec _ | exact Cl.bat _ | exact Cl.recsV _ | exact Cl.strsV _ | exact Cl.intsV _ | exact Cl.req _ | exact Cl.rsp _ | exact Cl.reqA _ | exact Cl.rspA _ | exact Cl.batsV _ | exact Cl.getB _ | exact Cl.encA _ | exact Cl.firstA _ | refine ClL.cons ?_ ?_ | refine Cl.tup ?_ | refine Cl.agg ?_ | exact ClO.RO _ _))) fun v hv' => ?_
    (conv => arg 4; whnf); repeat (refine ⟨rfl, ?_⟩; conv => arg 4; whnf)
    refine ⟨⟨i + 1, v, by omega, hv'.1, hv'.2.1, fun h5 => ?_⟩, by show r.names.length - (i + 1) < r.names.length - i; omega, WkG.of rfl rfl ⟨Le.of_eq (succ_i64 (by omega)), Le.refl _ _, Le.refl _ _, trivial⟩ ⟨⟨_, rfl, LeO.refl _ _⟩, trivial⟩ ⟨rfl, rfl, rfl, trivial⟩ ⟨⟨by decide, ClO.reqO _ _⟩, trivial⟩⟩
    have h6 := hv'.2.2 (by omega)
    simp only [List.sum_cons, List.sum_nil] at h6
    have h7 := hw3 (by omega)
    rw [ht]
    omega
  · rw [strs_length] at h
    rw [← Bool.not_eq_true] at h; simp only [Bool.cond_true_left, Bool.cond_false_right, Bool.or_eq_true, Bool.and_eq_true, Bool.not_eq_true', decide_eq_true_eq, beq_iff_eq, bne_iff_ne, u8s_length, gt_iff_lt, ge_iff_le] at h
    conv => arg 4; whnf
    refine fin_exit ?_
    show holds _ _ _ _
    conv => arg 4; whnf
    refine ⟨n, ⟨hw1, hw2, fun h5 => ?_⟩, by decide, by (repeat' (first | with_reducible exact Le.refl _ _ | exact Le.bl | exact Le.lb | exact Le.nils | exact Le.nilsFull | exact Le.none | exact LeL.nil _ | refine LeL.cons ?_ ?_ | refine Le.tup ?_ | refine Le.agg ?_ | exact Le.refl _ _ | exact LeL.refl _ _)), trivial, (by (repeat' (first | with_reducible assumption | exact ClL.nil | exact Cl.int _ _ | exact Cl.bool _ | exact Cl.bl _ | exact Cl.bs _ | exact Cl.str _ | exact Cl.nils | exact Cl.nilp | exact Cl.rec _ | exact Cl.bat _ | exact Cl.recsV _ | exact Cl.strsV _ | exact Cl.intsV _ | exact Cl.req _ | exact Cl.rsp _ | exact Cl.reqA _ | exact Cl.rspA _ | exact Cl.batsV _ | exact Cl.getB _ | exact Cl.encA _ | exact Cl.firstA _ | refine ClL.cons ?_ ?_ | refine Cl.tup ?_ | refine Cl.agg ?_ | exact ClO.RO _ _)) : Cl _) _, trivial⟩
    have h7 := hw3 h5
    have hi' : i = r.names.length := by omega
    rw [hi', List.take_length] at h7
    rw [h7]
    rfl
theorem rspWt {r : Rsp} (hl : r.names.length ≤ 1000000000000000) (hc : r.member.length ≤ 1000000000000000000) : CallOK Try.prog 41 [r.av] [] 0 (fun a h m => ∃ n : Int, Weighs n r.wt ∧ Out (.int .i64 n) [] 0 a h m) := by
  refine CallOK.fitE (by decide) ?_
  refine callOK Try.call41 Try.func41 Try.ntmps41 rfl ?_
  conv => arg 4; whnf
  have hx0 : ∀ y ∈ [(r.leader.length : Int), (r.nums.length : Int), (r.data.length : Int)], 0 ≤ y := by intro y hy; simp at hy; omega
  refine holds_args (args' := [_, .sl .none 0 (ints [(r.leader.length : Int), (r.nums.length : Int), (r.data.length : Int)])]) ⟨Le.refl _ _, Le.noneOf (by rw [u8s_length, ints_length]; rfl), trivial⟩ ?_
  refine call0E (sumE ⟨by omega, by omega⟩ hx0 (by simp)) (ClL.cons (Cl.int _ _) (ClL.cons (Cl.intsV _) ClL.nil)) (fun x => by (repeat' (first | with_reducible assumption | exact ClL.nil | exact Cl.int _ _ | exact Cl.bool _ | exact Cl.bl _ | exact Cl.bs _ | exact Cl.str _ | exact Cl.nils | exact Cl.nilp | exact Cl.rec _ | exact Cl.bat _ | exact Cl.recsV _ | exact Cl.strsV _ | exact Cl.intsV _ | exact Cl.req _ | exact Cl.rsp _ | exact Cl.reqA _ | exact Cl.rspA _ | exact Cl.batsV _ | exact Cl.getB _ | exact Cl.encA _ | exact Cl.firstA _ | refine ClL.cons ?_ ?_ | refine Cl.tup ?_ | refine Cl.agg ?_ | exact ClO.RO _ _))) fun v0 hv => ?_
  (conv => arg 4; whnf); repeat (refine ⟨rfl, ?_⟩; conv => arg 4; whnf)
  have hs0 : Weighs v0 (r.member.length + r.leader.length + r.nums.length + r.data.length + wtN (r.names.take 0)) := ⟨hv.1, hv.2.1, fun h => by
    have := hv.2.2 (by omega)
    simp only [List.sum_cons, List.sum_nil] at this
    simp [wtN]
    omega⟩
  refine tri_loopG (ι := WtI (r.member.length + r.leader.length + r.nums.length + r.data.length) r.names) (fun a => ⟨[(4, .int .i64 a.i), (3, .int .i64 a.n), (1, .ptr 0 0)], [(0, rspO r)], 1, 40⟩) (fun a => r.names.length - a.i) ⟨0, v0, Nat.zero_le _, hs0⟩ (WkG.of rfl rfl ⟨Le.refl _ _, Le.refl _ _, Le.refl _ _, trivial⟩ ⟨⟨_, rfl, LeO.refl _ _⟩, trivial⟩ ⟨rfl, rfl, rfl, trivial⟩ ⟨⟨by decide, ClO.rspO _ _⟩, trivial⟩) ?_
  rintro ⟨i, n, hi, hw⟩
  obtain ⟨hw1, hw2, hw3⟩ := hw
  dsimp only
  conv => arg 4; whnf
  refine ⟨fun h => ?_, fun h => ?_⟩
  · rw [strs_length] at h
    simp only [Bool.cond_true_left, Bool.cond_false_right, Bool.or_eq_true, Bool.and_eq_true, Bool.not_eq_true', decide_eq_true_eq, beq_iff_eq, bne_iff_ne, u8s_length, Bool.not_eq_true, gt_iff_lt, ge_iff_le] at h
    have h : i < r.names.length := by omega
    obtain ⟨x, hx⟩ : ∃ x, r.names[i]? = some x := ⟨_, List.getElem?_eq_getElem h⟩
    have ht := wtN_take hx
    (conv => arg 4; whnf); repeat (refine ⟨rfl, ?_⟩; conv => arg 4; whnf)
    refine ⟨.str x, ⟨by omega, strs_get hx⟩, ?_⟩
    (conv => arg 4; whnf); repeat (refine ⟨rfl, ?_⟩; conv => arg 4; whnf)
    have hx1 : ∀ y ∈ [(x.length : Int), 1], 0 ≤ y := by intro y hy; simp at hy; omega
    refine holds_args (args' := [_, .sl .none 0 (ints [(x.length : Int), 1])]) ⟨Le.refl _ _, Le.noneOf rfl, trivial⟩ ?_
    refine call0E (sumE ⟨by omega, by omega⟩ hx1 (by simp)) (ClL.cons (Cl.int _ _) (ClL.cons (Cl.intsV _) ClL.nil)) (fun x => by (repeat' (first | with_reducible assumption | exact ClL.nil | exact Cl.int _ _ | exact Cl.bool _ | exact Cl.bl _ | exact Cl.bs _ | exact Cl.str _ | exact Cl.nils | exact Cl.nilp | exact Cl.rec _ | exact Cl.bat _ | exact Cl.recsV _ | exact Cl.strsV _ | exact Cl.intsV _ | exact Cl.req _ | exact Cl.rsp _ | exact Cl.reqA _ | exact Cl.rspA _ | exact Cl.batsV _ | exact Cl.getB _ | exact Cl.encA _ | exact Cl.firstA _ | refine ClL.cons ?_ ?_ | refine Cl.tup ?_ | refine Cl.agg ?_ | exact ClO.RO _ _))) fun v hv' => ?_
    (conv => arg 4; whnf); repeat (refine ⟨rfl, ?_⟩; conv => arg 4; whnf)
    refine ⟨⟨i + 1, v, by omega, hv'.1, hv'.2.1, fun h5 => ?_⟩, by show r.names.length - (i + 1) < r.names.length - i; omega, WkG.of rfl rfl ⟨Le.of_eq (succ_i64 (by omega)), Le.refl _ _, Le.refl _ _, trivial⟩ ⟨⟨_, rfl, LeO.refl _ _⟩, trivial⟩ ⟨rfl, rfl, rfl, trivial⟩ ⟨⟨by decide, ClO.rspO _ _⟩, trivial⟩⟩
    have h6 := hv'.2.2 (by omega)
    simp only [List.sum_cons, List.sum_nil] at h6
    have h7 := hw3 (by omega)
    rw [ht]
    omega
  · rw [strs_length] at h
    rw [← Bool.not_eq_true] at h; simp only [Bool.cond_true_left, Bool.cond_false_right, Bool.or_eq_true, Bool.and_eq_true, Bool.not_eq_true', decide_eq_true_eq, beq_iff_eq, bne_iff_ne, u8s_length, gt_iff_lt, ge_iff_le] at h
    conv => arg 4; whnf
    refine fin_exit ?_
    show holds _ _ _ _
    conv => arg 4; whnf
    refine ⟨n, ⟨hw1, hw2, fun h5 => ?_⟩, by decide, by (repeat' (first | with_reducible exact Le.refl _ _ | exact Le.bl | exact Le.lb | exact Le.nils | exact Le.nilsFull | exact Le.none | exact LeL.nil _ | refine LeL.cons ?_ ?_ | refine Le.tup ?_ | refine Le.agg ?_ | exact Le.refl _ _ | exact LeL.refl _ _)), trivial, (by (repeat' (first | with_reducible assumption | exact ClL.nil | exact Cl.int _ _ | exact Cl.bool _ | exact Cl.bl _ | exact Cl.bs _ | exact Cl.str _ | exact Cl.nils | exact Cl.nilp | exact Cl.rec _ | exact Cl.bat _ | exact Cl.recsV _ | exact Cl.strsV _ | exact Cl.intsV _ | exact Cl.req _ | exact Cl.rsp _ | exact Cl.reqA _ | exact Cl.rspA _ | exact Cl.batsV _ | exact Cl.getB _ | exact Cl.encA _ | exact Cl.firstA _ | refine ClL.cons ?_ ?_ | refine Cl.tup ?_ | refine Cl.agg ?_ | exact ClO.RO _ _)) : Cl _) _, trivial⟩
    have h7 := hw3 h5
    have hi' : i = r.names.length := by omega
    rw [hi', List.take_length] at h7
    rw [h7]
    rfl

theorem errOk_good {p : List UInt8} {r : Req} {e : Int} (h : r.good p) (he : ErrOk p e) : e = 0 ∧ decR p = r ∧ corrOf p = r.corr := by
  obtain ⟨a1, a2, a3, a4⟩ := good_size h
  obtain ⟨b1, b2, b3, -⟩ := good_six h
  obtain ⟨-, -, c3, c4, -⟩ := Req.chk_ok h.c
  unfold ErrOk at he
  rw [if_neg (by omega), if_neg (by omega), if_neg (by omega)] at he
  refine ⟨?_, decR_is h, ?_⟩
  · rcases he with he | he
    · exact he.1
    · exact absurd ⟨r, h⟩ he.2
  · unfold corrOf
    rw [if_pos (by omega), b3]

def aw1 : Req := ⟨3, 7, [], [], 0, 0, 0, 0, [], [], 0, [], []⟩
theorem aw1_ok : aw1.ok := by unfold Req.ok I64 aw1; simp
theorem aw1_chk : aw1.chk = 0 := by
  rw [Req.chk, if_neg (by simp [aw1]), if_neg (by simp [aw1]), if_neg (by simp [aw1, Req.big, Long])]

theorem awake20 : CallOK Try.prog 33 [] [] 0 (Out (.bool true) [] 0) := by
  refine CallOK.fit (by decide) ?_
  refine callOK Try.call33 Try.func33 Try.ntmps33 rfl ?_
  conv => arg 4; whnf
  refine holds_args (args' := [aw1.av]) ⟨by show Le _ (.agg _) (.agg _); (repeat' (first | with_reducible exact Le.refl _ _ | exact Le.bl | exact Le.lb | exact Le.nils | exact Le.nilsFull | exact Le.none | exact LeL.nil _ | refine LeL.cons ?_ ?_ | refine Le.tup ?_ | refine Le.agg ?_ | exact Le.refl _ _ | exact LeL.refl _ _)), trivial⟩ ?_
  refine call0 (reqEnc aw1_ok (by decide)) (by (repeat' (first | with_reducible assumption | exact ClL.nil | exact Cl.int _ _ | exact Cl.bool _ | exact Cl.bl _ | exact Cl.bs _ | exact Cl.str _ | exact Cl.nils | exact Cl.nilp | exact Cl.rec _ | exact Cl.bat _ | exact Cl.recsV _ | exact Cl.strsV _ | exact Cl.intsV _ | exact Cl.req _ | exact Cl.rsp _ | exact Cl.reqA _ | exact Cl.rspA _ | exact Cl.batsV _ | exact Cl.getB _ | exact Cl.encA _ | exact Cl.firstA _ | refine ClL.cons ?_ ?_ | refine Cl.tup ?_ | refine Cl.agg ?_ | exact ClO.RO _ _))) (by (repeat' (first | with_reducible assumption | exact ClL.nil | exact Cl.int _ _ | exact Cl.bool _ | exact Cl.bl _ | exact Cl.bs _ | exact Cl.str _ | exact Cl.nils | exact Cl.nilp | exact Cl.rec _ | exact Cl.bat _ | exact Cl.recsV _ | exact Cl.strsV _ | exact Cl.intsV _ | exact Cl.req _ | exact Cl.rsp _ | exact Cl.reqA _ | exact Cl.rspA _ | exact Cl.batsV _ | exact Cl.getB _ | exact Cl.encA _ | exact Cl.firstA _ | refine ClL.cons ?_ ?_ | refine Cl.tup ?_ | refine Cl.agg ?_ | exact ClO.RO _ _))) ?_
  (conv => arg 4; whnf); repeat (refine ⟨rfl, ?_⟩; conv => arg 4; whnf)
  have hg : aw1.good aw1.enc := ⟨aw1_chk, aw1_ok, rfl⟩
  rw [aw1_chk, Req.out_yes aw1_chk]
  conv => arg 4; whnf
  refine call0E (reqDec (p := aw1.enc) (by have := (good_size hg).1; omega)) (by (repeat' (first | with_reducible assumption | exact ClL.nil | exact Cl.int _ _ | exact Cl.bool _ | exact Cl.bl _ | exact Cl.bs _ | exact Cl.str _ | exact Cl.nils | exact Cl.nilp | exact Cl.rec _ | exact Cl.bat _ | exact Cl.recsV _ | exact Cl.strsV _ | exact Cl.intsV _ | exact Cl.req _ | exact Cl.rsp _ | exact Cl.reqA _ | exact Cl.rspA _ | exact Cl.batsV _ | exact Cl.getB _ | exact Cl.encA _ | exact Cl.firstA _ | refine ClL.cons ?_ ?_ | refine Cl.tup ?_ | refine Cl.agg ?_ | exact ClO.RO _ _))) (fun x => by (repeat' (first | with_reducible assumption | exact ClL.nil | exact Cl.int _ _ | exact Cl.bool _ | exact Cl.bl _ | exact Cl.bs _ | exact Cl.str _ | exact Cl.nils | exact Cl.nilp | exact Cl.rec _ | exact Cl.bat _ | exact Cl.recsV _ | exact Cl.strsV _ | exact Cl.intsV _ | exact Cl.req _ | exact Cl.rsp _ | exact Cl.reqA _ | exact Cl.rspA _ | exact Cl.batsV _ | exact Cl.getB _ | exact Cl.encA _ | exact Cl.firstA _ | refine ClL.cons ?_ ?_ | refine Cl.tup ?_ | refine Cl.agg ?_ | exact ClO.RO _ _))) fun e1 he1 => ?_
  obtain ⟨q1, q2, q3⟩ := errOk_good hg he1
  rw [q1, q2, q3]
  (conv => arg 4; whnf); repeat (refine ⟨rfl, ?_⟩; conv => arg 4; whnf)
  refine holds_args (args' := [bs []]) ⟨Le.nils, trivial⟩ ?_
  refine call0E (reqDec (p := []) (by decide)) (by (repeat' (first | with_reducible assumption | exact ClL.nil | exact Cl.int _ _ | exact Cl.bool _ | exact Cl.bl _ | exact Cl.bs _ | exact Cl.str _ | exact Cl.nils | exact Cl.nilp | exact Cl.rec _ | exact Cl.bat _ | exact Cl.recsV _ | exact Cl.strsV _ | exact Cl.intsV _ | exact Cl.req _ | exact Cl.rsp _ | exact Cl.reqA _ | exact Cl.rspA _ | exact Cl.batsV _ | exact Cl.getB _ | exact Cl.encA _ | exact Cl.firstA _ | refine ClL.cons ?_ ?_ | refine Cl.tup ?_ | refine Cl.agg ?_ | exact ClO.RO _ _))) (fun x => by (repeat' (first | with_reducible assumption | exact ClL.nil | exact Cl.int _ _ | exact Cl.bool _ | exact Cl.bl _ | exact Cl.bs _ | exact Cl.str _ | exact Cl.nils | exact Cl.nilp | exact Cl.rec _ | exact Cl.bat _ | exact Cl.recsV _ | exact Cl.strsV _ | exact Cl.intsV _ | exact Cl.req _ | exact Cl.rsp _ | exact Cl.reqA _ | exact Cl.rspA _ | exact Cl.batsV _ | exact Cl.getB _ | exact Cl.encA _ | exact Cl.firstA _ | refine ClL.cons ?_ ?_ | refine Cl.tup ?_ | refine Cl.agg ?_ | exact ClO.RO _ _))) fun e2 he2 => ?_
  have q4 : e2 = 2 := by
    unfold ErrOk at he2
    rw [if_neg (by simp), if_pos (by simp)] at he2
    exact he2
  rw [q4]
  (conv => arg 4; whnf); repeat (refine ⟨rfl, ?_⟩; conv => arg 4; whnf)
  refine holds_args (args' := [bs [0, 99, 0, 0, 0, 9, 1]]) ⟨Le.none, trivial⟩ ?_
  refine call0E (reqDec (p := [0, 99, 0, 0, 0, 9, 1]) (by decide)) (by (repeat' (first | with_reducible assumption | exact ClL.nil | exact Cl.int _ _ | exact Cl.bool _ | exact Cl.bl _ | exact Cl.bs _ | exact Cl.str _ | exact Cl.nils | exact Cl.nilp | exact Cl.rec _ | exact Cl.bat _ | exact Cl.recsV _ | exact Cl.strsV _ | exact Cl.intsV _ | exact Cl.req _ | exact Cl.rsp _ | exact Cl.reqA _ | exact Cl.rspA _ | exact Cl.batsV _ | exact Cl.getB _ | exact Cl.encA _ | exact Cl.firstA _ | refine ClL.cons ?_ ?_ | refine Cl.tup ?_ | refine Cl.agg ?_ | exact ClO.RO _ _))) (fun x => by (repeat' (first | with_reducible assumption | exact ClL.nil | exact Cl.int _ _ | exact Cl.bool _ | exact Cl.bl _ | exact Cl.bs _ | exact Cl.str _ | exact Cl.nils | exact Cl.nilp | exact Cl.rec _ | exact Cl.bat _ | exact Cl.recsV _ | exact Cl.strsV _ | exact Cl.intsV _ | exact Cl.req _ | exact Cl.rsp _ | exact Cl.reqA _ | exact Cl.rspA _ | exact Cl.batsV _ | exact Cl.getB _ | exact Cl.encA _ | exact Cl.firstA _ | refine ClL.cons ?_ ?_ | refine Cl.tup ?_ | refine Cl.agg ?_ | exact ClO.RO _ _))) fun e3 he3 => ?_
  have q5 : e3 = 16 := by
    unfold ErrOk at he3
    rw [if_neg (by simp), if_neg (by simp), if_pos (by decide)] at he3
    exact he3
  have q6 : corrOf [0, 99, 0, 0, 0, 9, 1] = 9 := by decide
  rw [q5, q6]
  (conv => arg 4; whnf); repeat (refine ⟨rfl, ?_⟩; conv => arg 4; whnf)
  refine ⟨by decide, Le.of_eq (congrArg AV.bool ?_), trivial, (by (repeat' (first | with_reducible assumption | exact ClL.nil | exact Cl.int _ _ | exact Cl.bool _ | exact Cl.bl _ | exact Cl.bs _ | exact Cl.str _ | exact Cl.nils | exact Cl.nilp | exact Cl.rec _ | exact Cl.bat _ | exact Cl.recsV _ | exact Cl.strsV _ | exact Cl.intsV _ | exact Cl.req _ | exact Cl.rsp _ | exact Cl.reqA _ | exact Cl.rspA _ | exact Cl.batsV _ | exact Cl.getB _ | exact Cl.encA _ | exact Cl.firstA _ | refine ClL.cons ?_ ?_ | refine Cl.tup ?_ | refine Cl.agg ?_ | exact ClO.RO _ _)) : Cl _) _, trivial⟩
  rfl
end Go.Proofs.Ytbehegpahiefaaa.Pr

namespace Go.Proofs.Ytbehegpahiefaaa.Pr
set_option maxRecDepth 100000
set_option maxHeartbeats 80000000
open Go.Sym

abbrev Tru (a : AV) (_ : Heap) (_ : Nat) : Prop := a = .bool true ∨ a = .bl true

/-- No more than what a row's arguments hold. -/
structure Req.fits (r : Req) : Prop where
  ok : r.ok
  names : r.names.length ≤ 1000000000000000
  client : r.client.length ≤ 1000000000000000
structure Rsp.fits (r : Rsp) : Prop where
  ok : r.ok
  names : r.names.length ≤ 1000000000000000
  member : r.member.length ≤ 1000000000000000

theorem Weighs.le {n : Int} {w : Nat} (h : Weighs n w) (k : n ≤ 5000) : (w : Int) = n := (h.2.2 k).symm
theorem req_small {r : Req} (h : r.wt ≤ 5000) : r.names.length ≤ 5000 := by
  have := wtN_length r.names
  unfold Req.wt at h
  omega
theorem rsp_small {r : Rsp} (h : r.wt ≤ 5000) : r.names.length ≤ 5000 ∧ r.nums.length ≤ 5000 := by
  have := wtN_length r.names
  unfold Rsp.wt at h
  omega

theorem lawSame {a b : Req} {c d : Rsp} (ha : a.fits) (hb : b.fits) (hc : c.fits) (hd : d.fits) : CallOK Try.prog 8 [a.av, b.av, c.av, d.av] [] 0 Tru := by
  refine callOK Try.call8 Try.func8 Try.ntmps8 rfl ?_
  conv => arg 4; whnf
  refine call0E (reqWt ha.names (by have := ha.client; omega)) (by (repeat' (first | with_reducible assumption | exact ClL.nil | exact Cl.int _ _ | exact Cl.bool _ | exact Cl.bl _ | exact Cl.bs _ | exact Cl.str _ | exact Cl.nils | exact Cl.nilp | exact Cl.rec _ | exact Cl.bat _ | exact Cl.recsV _ | exact Cl.strsV _ | exact Cl.intsV _ | exact Cl.req _ | exact Cl.rsp _ | exact Cl.reqA _ | exact Cl.rspA _ | exact Cl.batsV _ | exact Cl.getB _ | exact Cl.encA _ | exact Cl.firstA _ | refine ClL.cons ?_ ?_ | refine Cl.tup ?_ | refine Cl.agg ?_ | exact ClO.RO _ _))) (fun x => by (repeat' (first | with_reducible assumption | exact ClL.nil | exact Cl.int _ _ | exact Cl.bool _ | exact Cl.bl _ | exact Cl.bs _ | exact Cl.str _ | exact Cl.nils | exact Cl.nilp | exact Cl.rec _ | exact Cl.bat _ | exact Cl.recsV _ | exact Cl.strsV _ | exact Cl.intsV _ | exact Cl.req _ | exact Cl.rsp _ | exact Cl.reqA _ | exact Cl.rspA _ | exact Cl.batsV _ | exact Cl.getB _ | exact Cl.encA _ | exact Cl.firstA _ | refine ClL.cons ?_ ?_ | refine Cl.tup ?_ | refine Cl.agg ?_ | exact ClO.RO _ _))) fun n1 w1 => ?_
  (conv => arg 4; whnf); repeat (refine ⟨rfl, ?_⟩; conv => arg 4; whnf)
  refine call0E (reqWt hb.names (by have := hb.client; omega)) (by (repeat' (first | with_reducible assumption | exact ClL.nil | exact Cl.int _ _ | exact Cl.bool _ | exact Cl.bl _ | exact Cl.bs _ | exact Cl.str _ | exact Cl.nils | exact Cl.nilp | exact Cl.rec _ | exact Cl.bat _ | exact Cl.recsV _ | exact Cl.strsV _ | exact Cl.intsV _ | exact Cl.req _ | exact Cl.rsp _ | exact Cl.reqA _ | exact Cl.rspA _ | exact Cl.batsV _ | exact Cl.getB _ | exact Cl.encA _ | exact Cl.firstA _ | refine ClL.cons ?_ ?_ | refine Cl.tup ?_ | refine Cl.agg ?_ | exact ClO.RO _ _))) (fun x => by (repeat' (first | with_reducible assumption | exact ClL.nil | exact Cl.int _ _ | exact Cl.bool _ | exact Cl.bl _ | exact Cl.bs _ | exact Cl.str _ | exact Cl.nils | exact Cl.nilp | exact Cl.rec _ | exact Cl.bat _ | exact Cl.recsV _ | exact Cl.strsV _ | exact Cl.intsV _ | exact Cl.req _ | exact Cl.rsp _ | exact Cl.reqA _ | exact Cl.rspA _ | exact Cl.batsV _ | exact Cl.getB _ | exact Cl.encA _ | exact Cl.firstA _ | refine ClL.cons ?_ ?_ | refine Cl.tup ?_ | refine Cl.agg ?_ | exact ClO.RO _ _))) fun n2 w2 => ?_
  (conv => arg 4; whnf); repeat (refine ⟨rfl, ?_⟩; conv => arg 4; whnf)
  refine call0E (rspWt hc.names (by have := hc.member; omega)) (by (repeat' (first | with_reducible assumption | exact ClL.nil | exact Cl.int _ _ | exact Cl.bool _ | exact Cl.bl _ | exact Cl.bs _ | exact Cl.str _ | exact Cl.nils | exact Cl.nilp | exact Cl.rec _ | exact Cl.bat _ | exact Cl.recsV _ | exact Cl.strsV _ | exact Cl.intsV _ | exact Cl.req _ | exact Cl.rsp _ | exact Cl.reqA _ | exact Cl.rspA _ | exact Cl.batsV _ | exact Cl.getB _ | exact Cl.encA _ | exact Cl.firstA _ | refine ClL.cons ?_ ?_ | refine Cl.tup ?_ | refine Cl.agg ?_ | exact ClO.RO _ _))) (fun x => by (repeat' (first | with_reducible assumption | exact ClL.nil | exact Cl.int _ _ | exact Cl.bool _ | exact Cl.bl _ | exact Cl.bs _ | exact Cl.str _ | exact Cl.nils | exact Cl.nilp | exact Cl.rec _ | exact Cl.bat _ | exact Cl.recsV _ | exact Cl.strsV _ | exact Cl.intsV _ | exact Cl.req _ | exact Cl.rsp _ | exact Cl.reqA _ | exact Cl.rspA _ | exact Cl.batsV _ | exact Cl.getB _ | exact Cl.encA _ | exact Cl.firstA _ | refine ClL.cons ?_ ?_ | refine Cl.tup ?_ | refine Cl.agg ?_ | exact ClO.RO _ _))) fun n3 w3 => ?_
  (conv => arg 4; whnf); repeat (refine ⟨rfl, ?_⟩; conv => arg 4; whnf)
  refine call0E (rspWt hd.names (by have := hd.member; omega)) (by (repeat' (first | with_reducible assumption | exact ClL.nil | exact Cl.int _ _ | exact Cl.bool _ | exact Cl.bl _ | exact Cl.bs _ | exact Cl.str _ | exact Cl.nils | exact Cl.nilp | exact Cl.rec _ | exact Cl.bat _ | exact Cl.recsV _ | exact Cl.strsV _ | exact Cl.intsV _ | exact Cl.req _ | exact Cl.rsp _ | exact Cl.reqA _ | exact Cl.rspA _ | exact Cl.batsV _ | exact Cl.getB _ | exact Cl.encA _ | exact Cl.firstA _ | refine ClL.cons ?_ ?_ | refine Cl.tup ?_ | refine Cl.agg ?_ | exact ClO.RO _ _))) (fun x => by (repeat' (first | with_reducible assumption | exact ClL.nil | exact Cl.int _ _ | exact Cl.bool _ | exact Cl.bl _ | exact Cl.bs _ | exact Cl.str _ | exact Cl.nils | exact Cl.nilp | exact Cl.rec _ | exact Cl.bat _ | exact Cl.recsV _ | exact Cl.strsV _ | exact Cl.intsV _ | exact Cl.req _ | exact Cl.rsp _ | exact Cl.reqA _ | exact Cl.rspA _ | exact Cl.batsV _ | exact Cl.getB _ | exact Cl.encA _ | exact Cl.firstA _ | refine ClL.cons ?_ ?_ | refine Cl.tup ?_ | refine Cl.agg ?_ | exact ClO.RO _ _))) fun n4 w4 => ?_
  (conv => arg 4; whnf); repeat (refine ⟨rfl, ?_⟩; conv => arg 4; whnf)
  have p1 := w1.1
  have p2 := w2.1
  have p3 := w3.1
  have p4 := w4.1
  have hx1 : ∀ y ∈ [n2, n3, n4], 0 ≤ y := by intro y hy; simp at hy; omega
  refine holds_args (args' := [_, .sl .none 0 (ints [n2, n3, n4])]) ⟨Le.refl _ _, Le.noneOf rfl, trivial⟩ ?_
  refine call0E (sumE ⟨by omega, by have := w1.2.1; omega⟩ hx1 (by simp)) (ClL.cons (Cl.int _ _) (ClL.cons (Cl.intsV _) ClL.nil)) (fun x => by (repeat' (first | with_reducible assumption | exact ClL.nil | exact Cl.int _ _ | exact Cl.bool _ | exact Cl.bl _ | exact Cl.bs _ | exact Cl.str _ | exact Cl.nils | exact Cl.nilp | exact Cl.rec _ | exact Cl.bat _ | exact Cl.recsV _ | exact Cl.strsV _ | exact Cl.intsV _ | exact Cl.req _ | exact Cl.rsp _ | exact Cl.reqA _ | exact Cl.rspA _ | exact Cl.batsV _ | exact Cl.getB _ | exact Cl.encA _ | exact Cl.firstA _ | refine ClL.cons ?_ ?_ | refine Cl.tup ?_ | refine Cl.agg ?_ | exact ClO.RO _ _))) fun v hv => ?_
  (conv => arg 4; whnf); repeat (refine ⟨rfl, ?_⟩; conv => arg 4; whnf)
  refine ⟨fun h => ?_, fun h => ?_⟩
  · (conv => arg 4; whnf); repeat (refine ⟨rfl, ?_⟩; conv => arg 4; whnf)
    refine call0 awake20 (by (repeat' (first | with_reducible assumption | exact ClL.nil | exact Cl.int _ _ | exact Cl.bool _ | exact Cl.bl _ | exact Cl.bs _ | exact Cl.str _ | exact Cl.nils | exact Cl.nilp | exact Cl.rec _ | exact Cl.bat _ | exact Cl.recsV _ | exact Cl.strsV _ | exact Cl.intsV _ | exact Cl.req _ | exact Cl.rsp _ | exact Cl.reqA _ | exact Cl.rspA _ | exact Cl.batsV _ | exact Cl.getB _ | exact Cl.encA _ | exact Cl.firstA _ | refine ClL.cons ?_ ?_ | refine Cl.tup ?_ | refine Cl.agg ?_ | exact ClO.RO _ _))) (by (repeat' (first | with_reducible assumption | exact ClL.nil | exact Cl.int _ _ | exact Cl.bool _ | exact Cl.bl _ | exact Cl.bs _ | exact Cl.str _ | exact Cl.nils | exact Cl.nilp | exact Cl.rec _ | exact Cl.bat _ | exact Cl.recsV _ | exact Cl.strsV _ | exact Cl.intsV _ | exact Cl.req _ | exact Cl.rsp _ | exact Cl.reqA _ | exact Cl.rspA _ | exact Cl.batsV _ | exact Cl.getB _ | exact Cl.encA _ | exact Cl.firstA _ | refine ClL.cons ?_ ?_ | refine Cl.tup ?_ | refine Cl.agg ?_ | exact ClO.RO _ _))) ?_
    (conv => arg 4; whnf); repeat (refine ⟨rfl, ?_⟩; conv => arg 4; whnf)
    exact .inl rfl
  · have h : v ≤ 5000 := by simpa using h
    have h6 := hv.2.2 (by omega)
    simp only [List.sum_cons, List.sum_nil] at h6
    have e1 := w1.le (by omega)
    have e3 := w3.le (by omega)
    have s1 := req_small (r := a) (by omega)
    have s3 := rsp_small (r := c) (by omega)
    (conv => arg 4; whnf); repeat (refine ⟨rfl, ?_⟩; conv => arg 4; whnf)
    refine call0 (reqSame (a := a) (b := b) (by omega)) (by (repeat' (first | with_reducible assumption | exact ClL.nil | exact Cl.int _ _ | exact Cl.bool _ | exact Cl.bl _ | exact Cl.bs _ | exact Cl.str _ | exact Cl.nils | exact Cl.nilp | exact Cl.rec _ | exact Cl.bat _ | exact Cl.recsV _ | exact Cl.strsV _ | exact Cl.intsV _ | exact Cl.req _ | exact Cl.rsp _ | exact Cl.reqA _ | exact Cl.rspA _ | exact Cl.batsV _ | exact Cl.getB _ | exact Cl.encA _ | exact Cl.firstA _ | refine ClL.cons ?_ ?_ | refine Cl.tup ?_ | refine Cl.agg ?_ | exact ClO.RO _ _))) (by (repeat' (first | with_reducible assumption | exact ClL.nil | exact Cl.int _ _ | exact Cl.bool _ | exact Cl.bl _ | exact Cl.bs _ | exact Cl.str _ | exact Cl.nils | exact Cl.nilp | exact Cl.rec _ | exact Cl.bat _ | exact Cl.recsV _ | exact Cl.strsV _ | exact Cl.intsV _ | exact Cl.req _ | exact Cl.rsp _ | exact Cl.reqA _ | exact Cl.rspA _ | exact Cl.batsV _ | exact Cl.getB _ | exact Cl.encA _ | exact Cl.firstA _ | refine ClL.cons ?_ ?_ | refine Cl.tup ?_ | refine Cl.agg ?_ | exact ClO.RO _ _))) ?_
    (conv => arg 4; whnf); repeat (refine ⟨rfl, ?_⟩; conv => arg 4; whnf)
    refine call0 (refReqSame (a := a) (b := b) (by omega)) (by (repeat' (first | with_reducible assumption | exact ClL.nil | exact Cl.int _ _ | exact Cl.bool _ | exact Cl.bl _ | exact Cl.bs _ | exact Cl.str _ | exact Cl.nils | exact Cl.nilp | exact Cl.rec _ | exact Cl.bat _ | exact Cl.recsV _ | exact Cl.strsV _ | exact Cl.intsV _ | exact Cl.req _ | exact Cl.rsp _ | exact Cl.reqA _ | exact Cl.rspA _ | exact Cl.batsV _ | exact Cl.getB _ | exact Cl.encA _ | exact Cl.firstA _ | refine ClL.cons ?_ ?_ | refine Cl.tup ?_ | refine Cl.agg ?_ | exact ClO.RO _ _))) (by (repeat' (first | with_reducible assumption | exact ClL.nil | exact Cl.int _ _ | exact Cl.bool _ | exact Cl.bl _ | exact Cl.bs _ | exact Cl.str _ | exact Cl.nils | exact Cl.nilp | exact Cl.rec _ | exact Cl.bat _ | exact Cl.recsV _ | exact Cl.strsV _ | exact Cl.intsV _ | exact Cl.req _ | exact Cl.rsp _ | exact Cl.reqA _ | exact Cl.rspA _ | exact Cl.batsV _ | exact Cl.getB _ | exact Cl.encA _ | exact Cl.firstA _ | refine ClL.cons ?_ ?_ | refine Cl.tup ?_ | refine Cl.agg ?_ | exact ClO.RO _ _))) ?_
    (conv => arg 4; whnf); repeat (refine ⟨rfl, ?_⟩; conv => arg 4; whnf)
    refine ⟨fun _ => ?_, fun h => absurd h (by first | (simp; done) | (simp [u8s]; done))⟩
    conv => arg 4; whnf
    refine call0 (rspSame (a := c) (b := d) (by omega) (by omega)) (by (repeat' (first | with_reducible assumption | exact ClL.nil | exact Cl.int _ _ | exact Cl.bool _ | exact Cl.bl _ | exact Cl.bs _ | exact Cl.str _ | exact Cl.nils | exact Cl.nilp | exact Cl.rec _ | exact Cl.bat _ | exact Cl.recsV _ | exact Cl.strsV _ | exact Cl.intsV _ | exact Cl.req _ | exact Cl.rsp _ | exact Cl.reqA _ | exact Cl.rspA _ | exact Cl.batsV _ | exact Cl.getB _ | exact Cl.encA _ | exact Cl.firstA _ | refine ClL.cons ?_ ?_ | refine Cl.tup ?_ | refine Cl.agg ?_ | exact ClO.RO _ _))) (by (repeat' (first | with_reducible assumption | exact ClL.nil | exact Cl.int _ _ | exact Cl.bool _ | exact Cl.bl _ | exact Cl.bs _ | exact Cl.str _ | exact Cl.nils | exact Cl.nilp | exact Cl.rec _ | exact Cl.bat _ | exact Cl.recsV _ | exact Cl.strsV _ | exact Cl.intsV _ | exact Cl.req _ | exact Cl.rsp _ | exact Cl.reqA _ | exact Cl.rspA _ | exact Cl.batsV _ | exact Cl.getB _ | exact Cl.encA _ | exact Cl.firstA _ | refine ClL.cons ?_ ?_ | refine Cl.tup ?_ | refine Cl.agg ?_ | exact ClO.RO _ _))) ?_
    (conv => arg 4; whnf); repeat (refine ⟨rfl, ?_⟩; conv => arg 4; whnf)
    refine call0 (refRspSame (a := c) (b := d) (by omega) (by omega)) (by (repeat' (first | with_reducible assumption | exact ClL.nil | exact Cl.int _ _ | exact Cl.bool _ | exact Cl.bl _ | exact Cl.bs _ | exact Cl.str _ | exact Cl.nils | exact Cl.nilp | exact Cl.rec _ | exact Cl.bat _ | exact Cl.recsV _ | exact Cl.strsV _ | exact Cl.intsV _ | exact Cl.req _ | exact Cl.rsp _ | exact Cl.reqA _ | exact Cl.rspA _ | exact Cl.batsV _ | exact Cl.getB _ | exact Cl.encA _ | exact Cl.firstA _ | refine ClL.cons ?_ ?_ | refine Cl.tup ?_ | refine Cl.agg ?_ | exact ClO.RO _ _))) (by (repeat' (first | with_reducible assumption | exact ClL.nil | exact Cl.int _ _ | exact Cl.bool _ | exact Cl.bl _ | exact Cl.bs _ | exact Cl.str _ | exact Cl.nils | exact Cl.nilp | exact Cl.rec _ | exact Cl.bat _ | exact Cl.recsV _ | exact Cl.strsV _ | exact Cl.intsV _ | exact Cl.req _ | exact Cl.rsp _ | exact Cl.reqA _ | exact Cl.rspA _ | exact Cl.batsV _ | exact Cl.getB _ | exact Cl.encA _ | exact Cl.firstA _ | refine ClL.cons ?_ ?_ | refine Cl.tup ?_ | refine Cl.agg ?_ | exact ClO.RO _ _))) ?_
    (conv => arg 4; whnf); repeat (refine ⟨rfl, ?_⟩; conv => arg 4; whnf)
    refine ⟨fun _ => ?_, fun h => absurd h (by first | (simp; done) | (simp [u8s]; done))⟩
    conv => arg 4; whnf
    refine call0 awake20 (by (repeat' (first | with_reducible assumption | exact ClL.nil | exact Cl.int _ _ | exact Cl.bool _ | exact Cl.bl _ | exact Cl.bs _ | exact Cl.str _ | exact Cl.nils | exact Cl.nilp | exact Cl.rec _ | exact Cl.bat _ | exact Cl.recsV _ | exact Cl.strsV _ | exact Cl.intsV _ | exact Cl.req _ | exact Cl.rsp _ | exact Cl.reqA _ | exact Cl.rspA _ | exact Cl.batsV _ | exact Cl.getB _ | exact Cl.encA _ | exact Cl.firstA _ | refine ClL.cons ?_ ?_ | refine Cl.tup ?_ | refine Cl.agg ?_ | exact ClO.RO _ _))) (by (repeat' (first | with_reducible assumption | exact ClL.nil | exact Cl.int _ _ | exact Cl.bool _ | exact Cl.bl _ | exact Cl.bs _ | exact Cl.str _ | exact Cl.nils | exact Cl.nilp | exact Cl.rec _ | exact Cl.bat _ | exact Cl.recsV _ | exact Cl.strsV _ | exact Cl.intsV _ | exact Cl.req _ | exact Cl.rsp _ | exact Cl.reqA _ | exact Cl.rspA _ | exact Cl.batsV _ | exact Cl.getB _ | exact Cl.encA _ | exact Cl.firstA _ | refine ClL.cons ?_ ?_ | refine Cl.tup ?_ | refine Cl.agg ?_ | exact ClO.RO _ _))) ?_
    (conv => arg 4; whnf); repeat (refine ⟨rfl, ?_⟩; conv => arg 4; whnf)
    exact .inl rfl

theorem dec_err {p : List UInt8} {g : Int} (h : ErrOk p g) : (decH p < 0 ∧ (g = 2 ∨ g = 3)) ∨ (0 ≤ decH p ∧ g = decH p) := by
  unfold ErrOk at h
  unfold decH
  split
  · rename_i h1; rw [if_pos h1] at h; exact .inr ⟨by omega, h⟩
  · rename_i h1
    rw [if_neg h1] at h
    split
    · rename_i h2; rw [if_pos h2] at h; exact .inr ⟨by omega, h⟩
    · rename_i h2
      rw [if_neg h2] at h
      split
      · rename_i h3; rw [if_pos h3] at h; exact .inr ⟨by omega, h⟩
      · rename_i h3
        rw [if_neg h3] at h
        split
        · rename_i h4
          rcases h with h | h
          · exact .inr ⟨by omega, h.1⟩
          · exact absurd h4 h.2
        · rename_i h4
          rcases h with h | h
          · exact absurd ⟨_, h.2⟩ h4
          · exact .inl ⟨by omega, h.1⟩

theorem lawRequests {r : Req} {p : List UInt8} (hr : r.fits) : CallOK Try.prog 7 [r.av, bs p] [] 0 Tru := by
  refine callOK Try.call7 Try.func7 Try.ntmps7 rfl ?_
  conv => arg 4; whnf
  refine call0E (reqWt hr.names (by have := hr.client; omega)) (by (repeat' (first | with_reducible assumption | exact ClL.nil | exact Cl.int _ _ | exact Cl.bool _ | exact Cl.bl _ | exact Cl.bs _ | exact Cl.str _ | exact Cl.nils | exact Cl.nilp | exact Cl.rec _ | exact Cl.bat _ | exact Cl.recsV _ | exact Cl.strsV _ | exact Cl.intsV _ | exact Cl.req _ | exact Cl.rsp _ | exact Cl.reqA _ | exact Cl.rspA _ | exact Cl.batsV _ | exact Cl.getB _ | exact Cl.encA _ | exact Cl.firstA _ | refine ClL.cons ?_ ?_ | refine Cl.tup ?_ | refine Cl.agg ?_ | exact ClO.RO _ _))) (fun x => by (repeat' (first | with_reducible assumption | exact ClL.nil | exact Cl.int _ _ | exact Cl.bool _ | exact Cl.bl _ | exact Cl.bs _ | exact Cl.str _ | exact Cl.nils | exact Cl.nilp | exact Cl.rec _ | exact Cl.bat _ | exact Cl.recsV _ | exact Cl.strsV _ | exact Cl.intsV _ | exact Cl.req _ | exact Cl.rsp _ | exact Cl.reqA _ | exact Cl.rspA _ | exact Cl.batsV _ | exact Cl.getB _ | exact Cl.encA _ | exact Cl.firstA _ | refine ClL.cons ?_ ?_ | refine Cl.tup ?_ | refine Cl.agg ?_ | exact ClO.RO _ _))) fun n1 w1 => ?_
  (conv => arg 4; whnf); repeat (refine ⟨rfl, ?_⟩; conv => arg 4; whnf)
  refine ⟨fun h => ?_, fun h => ?_⟩
  · (conv => arg 4; whnf); repeat (refine ⟨rfl, ?_⟩; conv => arg 4; whnf)
    refine call0 awake20 (by (repeat' (first | with_reducible assumption | exact ClL.nil | exact Cl.int _ _ | exact Cl.bool _ | exact Cl.bl _ | exact Cl.bs _ | exact Cl.str _ | exact Cl.nils | exact Cl.nilp | exact Cl.rec _ | exact Cl.bat _ | exact Cl.recsV _ | exact Cl.strsV _ | exact Cl.intsV _ | exact Cl.req _ | exact Cl.rsp _ | exact Cl.reqA _ | exact Cl.rspA _ | exact Cl.batsV _ | exact Cl.getB _ | exact Cl.encA _ | exact Cl.firstA _ | refine ClL.cons ?_ ?_ | refine Cl.tup ?_ | refine Cl.agg ?_ | exact ClO.RO _ _))) (by (repeat' (first | with_reducible assumption | exact ClL.nil | exact Cl.int _ _ | exact Cl.bool _ | exact Cl.bl _ | exact Cl.bs _ | exact Cl.str _ | exact Cl.nils | exact Cl.nilp | exact Cl.rec _ | exact Cl.bat _ | exact Cl.recsV _ | exact Cl.strsV _ | exact Cl.intsV _ | exact Cl.req _ | exact Cl.rsp _ | exact Cl.reqA _ | exact Cl.rspA _ | exact Cl.batsV _ | exact Cl.getB _ | exact Cl.encA _ | exact Cl.firstA _ | refine ClL.cons ?_ ?_ | refine Cl.tup ?_ | refine Cl.agg ?_ | exact ClO.RO _ _))) ?_
    (conv => arg 4; whnf); repeat (refine ⟨rfl, ?_⟩; conv => arg 4; whnf)
    exact .inl rfl
  · rw [u8s_length] at h
    rw [← Bool.not_eq_true] at h; simp only [Bool.cond_true_left, Bool.cond_false_right, Bool.or_eq_true, Bool.and_eq_true, Bool.not_eq_true', decide_eq_true_eq, beq_iff_eq, bne_iff_ne, u8s_length, gt_iff_lt, ge_iff_le] at h
    have e1 := w1.le (by omega)
    have s1 := req_small (r := r) (by omega)
    (conv => arg 4; whnf); repeat (refine ⟨rfl, ?_⟩; conv => arg 4; whnf)
    refine call0 (reqEnc hr.ok (by omega)) (by (repeat' (first | with_reducible assumption | exact ClL.nil | exact Cl.int _ _ | exact Cl.bool _ | exact Cl.bl _ | exact Cl.bs _ | exact Cl.str _ | exact Cl.nils | exact Cl.nilp | exact Cl.rec _ | exact Cl.bat _ | exact Cl.recsV _ | exact Cl.strsV _ | exact Cl.intsV _ | exact Cl.req _ | exact Cl.rsp _ | exact Cl.reqA _ | exact Cl.rspA _ | exact Cl.batsV _ | exact Cl.getB _ | exact Cl.encA _ | exact Cl.firstA _ | refine ClL.cons ?_ ?_ | refine Cl.tup ?_ | refine Cl.agg ?_ | exact ClO.RO _ _))) (Cl.reqA _) ?_
    (conv => arg 4; whnf); repeat (refine ⟨rfl, ?_⟩; conv => arg 4; whnf)
    refine call0 (refReqEnc hr.ok (by omega)) (by (repeat' (first | with_reducible assumption | exact ClL.nil | exact Cl.int _ _ | exact Cl.bool _ | exact Cl.bl _ | exact Cl.bs _ | exact Cl.str _ | exact Cl.nils | exact Cl.nilp | exact Cl.rec _ | exact Cl.bat _ | exact Cl.recsV _ | exact Cl.strsV _ | exact Cl.intsV _ | exact Cl.req _ | exact Cl.rsp _ | exact Cl.reqA _ | exact Cl.rspA _ | exact Cl.batsV _ | exact Cl.getB _ | exact Cl.encA _ | exact Cl.firstA _ | refine ClL.cons ?_ ?_ | refine Cl.tup ?_ | refine Cl.agg ?_ | exact ClO.RO _ _))) (Cl.reqA _) ?_
    (conv => arg 4; whnf); repeat (refine ⟨rfl, ?_⟩; conv => arg 4; whnf)
    refine call0E (reqDec (p := p) (by omega)) (by (repeat' (first | with_reducible assumption | exact ClL.nil | exact Cl.int _ _ | exact Cl.bool _ | exact Cl.bl _ | exact Cl.bs _ | exact Cl.str _ | exact Cl.nils | exact Cl.nilp | exact Cl.rec _ | exact Cl.bat _ | exact Cl.recsV _ | exact Cl.strsV _ | exact Cl.intsV _ | exact Cl.req _ | exact Cl.rsp _ | exact Cl.reqA _ | exact Cl.rspA _ | exact Cl.batsV _ | exact Cl.getB _ | exact Cl.encA _ | exact Cl.firstA _ | refine ClL.cons ?_ ?_ | refine Cl.tup ?_ | refine Cl.agg ?_ | exact ClO.RO _ _))) (fun x => by (repeat' (first | with_reducible assumption | exact ClL.nil | exact Cl.int _ _ | exact Cl.bool _ | exact Cl.bl _ | exact Cl.bs _ | exact Cl.str _ | exact Cl.nils | exact Cl.nilp | exact Cl.rec _ | exact Cl.bat _ | exact Cl.recsV _ | exact Cl.strsV _ | exact Cl.intsV _ | exact Cl.req _ | exact Cl.rsp _ | exact Cl.reqA _ | exact Cl.rspA _ | exact Cl.batsV _ | exact Cl.getB _ | exact Cl.encA _ | exact Cl.firstA _ | refine ClL.cons ?_ ?_ | refine Cl.tup ?_ | refine Cl.agg ?_ | exact ClO.RO _ _))) fun g hg => ?_
    (conv => arg 4; whnf); repeat (refine ⟨rfl, ?_⟩; conv => arg 4; whnf)
    refine call0 (refReqDec (p := p) (by omega)) (by (repeat' (first | with_reducible assumption | exact ClL.nil | exact Cl.int _ _ | exact Cl.bool _ | exact Cl.bl _ | exact Cl.bs _ | exact Cl.str _ | exact Cl.nils | exact Cl.nilp | exact Cl.rec _ | exact Cl.bat _ | exact Cl.recsV _ | exact Cl.strsV _ | exact Cl.intsV _ | exact Cl.req _ | exact Cl.rsp _ | exact Cl.reqA _ | exact Cl.rspA _ | exact Cl.batsV _ | exact Cl.getB _ | exact Cl.encA _ | exact Cl.firstA _ | refine ClL.cons ?_ ?_ | refine Cl.tup ?_ | refine Cl.agg ?_ | exact ClO.RO _ _))) (by (repeat' (first | with_reducible assumption | exact ClL.nil | exact Cl.int _ _ | exact Cl.bool _ | exact Cl.bl _ | exact Cl.bs _ | exact Cl.str _ | exact Cl.nils | exact Cl.nilp | exact Cl.rec _ | exact Cl.bat _ | exact Cl.recsV _ | exact Cl.strsV _ | exact Cl.intsV _ | exact Cl.req _ | exact Cl.rsp _ | exact Cl.reqA _ | exact Cl.rspA _ | exact Cl.batsV _ | exact Cl.getB _ | exact Cl.encA _ | exact Cl.firstA _ | refine ClL.cons ?_ ?_ | refine Cl.tup ?_ | refine Cl.agg ?_ | exact ClO.RO _ _))) ?_
    (conv => arg 4; whnf); repeat (refine ⟨rfl, ?_⟩; conv => arg 4; whnf)
    refine ⟨r.out, rfl, ?_⟩
    (conv => arg 4; whnf); repeat (refine ⟨rfl, ?_⟩; conv => arg 4; whnf)
    refine ⟨r.out, rfl, ?_⟩
    (conv => arg 4; whnf); repeat (refine ⟨rfl, ?_⟩; conv => arg 4; whnf)
    have q0 : (bif !(r.out == r.out) then true else r.chk != r.chk) = false := by simp
    refine ⟨fun h' => absurd (q0.symm.trans h') (by decide), fun _ => ?_⟩
    (conv => arg 4; whnf); repeat (refine ⟨rfl, ?_⟩; conv => arg 4; whnf)
    have hdn : (decR p).names.length ≤ 1000000000 := by
      by_cases hg' : ∃ y : Req, y.good p
      · have := (req_lens (decR_good hg').c).1.2.2.2.2.1; omega
      · rw [decR_none hg']; simp [Req.none]
    refine call0 (refReqSame (a := decR p) (b := decR p) hdn) (by (repeat' (first | with_reducible assumption | exact ClL.nil | exact Cl.int _ _ | exact Cl.bool _ | exact Cl.bl _ | exact Cl.bs _ | exact Cl.str _ | exact Cl.nils | exact Cl.nilp | exact Cl.rec _ | exact Cl.bat _ | exact Cl.recsV _ | exact Cl.strsV _ | exact Cl.intsV _ | exact Cl.req _ | exact Cl.rsp _ | exact Cl.reqA _ | exact Cl.rspA _ | exact Cl.batsV _ | exact Cl.getB _ | exact Cl.encA _ | exact Cl.firstA _ | refine ClL.cons ?_ ?_ | refine Cl.tup ?_ | refine Cl.agg ?_ | exact ClO.RO _ _))) (by (repeat' (first | with_reducible assumption | exact ClL.nil | exact Cl.int _ _ | exact Cl.bool _ | exact Cl.bl _ | exact Cl.bs _ | exact Cl.str _ | exact Cl.nils | exact Cl.nilp | exact Cl.rec _ | exact Cl.bat _ | exact Cl.recsV _ | exact Cl.strsV _ | exact Cl.intsV _ | exact Cl.req _ | exact Cl.rsp _ | exact Cl.reqA _ | exact Cl.rspA _ | exact Cl.batsV _ | exact Cl.getB _ | exact Cl.encA _ | exact Cl.firstA _ | refine ClL.cons ?_ ?_ | refine Cl.tup ?_ | refine Cl.agg ?_ | exact ClO.RO _ _))) ?_
    (conv => arg 4; whnf); repeat (refine ⟨rfl, ?_⟩; conv => arg 4; whnf)
    have q1 : (bif !decide (decR p = decR p) then true else corrOf p != corrOf p) = false := by simp
    refine ⟨fun h' => absurd (q1.symm.trans h') (by decide), fun _ => ?_⟩
    (conv => arg 4; whnf); repeat (refine ⟨rfl, ?_⟩; conv => arg 4; whnf)
    have hde := dec_err hg
    refine ⟨fun h2 => ?_, fun h2 => ?_⟩
    · have h2 : decH p < 0 := by simpa using h2
      have hge : g = 2 ∨ g = 3 := by omega
      (conv => arg 4; whnf); repeat (refine ⟨rfl, ?_⟩; conv => arg 4; whnf)
      have q2 : (bif g == 2 then true else g == 3) = true := by rcases hge with h | h <;> rw [h] <;> rfl
      refine ⟨fun _ => ?_, fun h' => absurd (q2.symm.trans h') (by decide)⟩
      (conv => arg 4; whnf); repeat (refine ⟨rfl, ?_⟩; conv => arg 4; whnf)
      refine call0 awake20 (by (repeat' (first | with_reducible assumption | exact ClL.nil | exact Cl.int _ _ | exact Cl.bool _ | exact Cl.bl _ | exact Cl.bs _ | exact Cl.str _ | exact Cl.nils | exact Cl.nilp | exact Cl.rec _ | exact Cl.bat _ | exact Cl.recsV _ | exact Cl.strsV _ | exact Cl.intsV _ | exact Cl.req _ | exact Cl.rsp _ | exact Cl.reqA _ | exact Cl.rspA _ | exact Cl.batsV _ | exact Cl.getB _ | exact Cl.encA _ | exact Cl.firstA _ | refine ClL.cons ?_ ?_ | refine Cl.tup ?_ | refine Cl.agg ?_ | exact ClO.RO _ _))) (by (repeat' (first | with_reducible assumption | exact ClL.nil | exact Cl.int _ _ | exact Cl.bool _ | exact Cl.bl _ | exact Cl.bs _ | exact Cl.str _ | exact Cl.nils | exact Cl.nilp | exact Cl.rec _ | exact Cl.bat _ | exact Cl.recsV _ | exact Cl.strsV _ | exact Cl.intsV _ | exact Cl.req _ | exact Cl.rsp _ | exact Cl.reqA _ | exact Cl.rspA _ | exact Cl.batsV _ | exact Cl.getB _ | exact Cl.encA _ | exact Cl.firstA _ | refine ClL.cons ?_ ?_ | refine Cl.tup ?_ | refine Cl.agg ?_ | exact ClO.RO _ _))) ?_
      (conv => arg 4; whnf); repeat (refine ⟨rfl, ?_⟩; conv => arg 4; whnf)
      exact .inl rfl
    · have h2 : ¬ decH p < 0 := by simpa using h2
      have hge : g = decH p := by omega
      (conv => arg 4; whnf); repeat (refine ⟨rfl, ?_⟩; conv => arg 4; whnf)
      have q2 : (g == decH p) = true := by rw [hge]; simp
      refine ⟨fun _ => ?_, fun h' => absurd (q2.symm.trans h') (by decide)⟩
      (conv => arg 4; whnf); repeat (refine ⟨rfl, ?_⟩; conv => arg 4; whnf)
      refine call0 (reqSame (a := r) (b := r) (by omega)) (by (repeat' (first | with_reducible assumption | exact ClL.nil | exact Cl.int _ _ | exact Cl.bool _ | exact Cl.bl _ | exact Cl.bs _ | exact Cl.str _ | exact Cl.nils | exact Cl.nilp | exact Cl.rec _ | exact Cl.bat _ | exact Cl.recsV _ | exact Cl.strsV _ | exact Cl.intsV _ | exact Cl.req _ | exact Cl.rsp _ | exact Cl.reqA _ | exact Cl.rspA _ | exact Cl.batsV _ | exact Cl.getB _ | exact Cl.encA _ | exact Cl.firstA _ | refine ClL.cons ?_ ?_ | refine Cl.tup ?_ | refine Cl.agg ?_ | exact ClO.RO _ _))) (by (repeat' (first | with_reducible assumption | exact ClL.nil | exact Cl.int _ _ | exact Cl.bool _ | exact Cl.bl _ | exact Cl.bs _ | exact Cl.str _ | exact Cl.nils | exact Cl.nilp | exact Cl.rec _ | exact Cl.bat _ | exact Cl.recsV _ | exact Cl.strsV _ | exact Cl.intsV _ | exact Cl.req _ | exact Cl.rsp _ | exact Cl.reqA _ | exact Cl.rspA _ | exact Cl.batsV _ | exact Cl.getB _ | exact Cl.encA _ | exact Cl.firstA _ | refine ClL.cons ?_ ?_ | refine Cl.tup ?_ | refine Cl.agg ?_ | exact ClO.RO _ _))) ?_
      (conv => arg 4; whnf); repeat (refine ⟨rfl, ?_⟩; conv => arg 4; whnf)
      refine ⟨fun _ => ?_, fun h => absurd h (by first | (simp; done) | (simp [u8s]; done))⟩
      conv => arg 4; whnf
      refine call0 awake20 (by (repeat' (first | with_reducible assumption | exact ClL.nil | exact Cl.int _ _ | exact Cl.bool _ | exact Cl.bl _ | exact Cl.bs _ | exact Cl.str _ | exact Cl.nils | exact Cl.nilp | exact Cl.rec _ | exact Cl.bat _ | exact Cl.recsV _ | exact Cl.strsV _ | exact Cl.intsV _ | exact Cl.req _ | exact Cl.rsp _ | exact Cl.reqA _ | exact Cl.rspA _ | exact Cl.batsV _ | exact Cl.getB _ | exact Cl.encA _ | exact Cl.firstA _ | refine ClL.cons ?_ ?_ | refine Cl.tup ?_ | refine Cl.agg ?_ | exact ClO.RO _ _))) (by (repeat' (first | with_reducible assumption | exact ClL.nil | exact Cl.int _ _ | exact Cl.bool _ | exact Cl.bl _ | exact Cl.bs _ | exact Cl.str _ | exact Cl.nils | exact Cl.nilp | exact Cl.rec _ | exact Cl.bat _ | exact Cl.recsV _ | exact Cl.strsV _ | exact Cl.intsV _ | exact Cl.req _ | exact Cl.rsp _ | exact Cl.reqA _ | exact Cl.rspA _ | exact Cl.batsV _ | exact Cl.getB _ | exact Cl.encA _ | exact Cl.firstA _ | refine ClL.cons ?_ ?_ | refine Cl.tup ?_ | refine Cl.agg ?_ | exact ClO.RO _ _))) ?_
      (conv => arg 4; whnf); repeat (refine ⟨rfl, ?_⟩; conv => arg 4; whnf)
      exact .inl rfl
end Go.Proofs.Ytbehegpahiefaaa.Pr

namespace Go.Proofs.Ytbehegpahiefaaa.Pr
set_option maxRecDepth 100000
set_option maxHeartbeats 80000000
open Go.Sym

def FrameOk (q : List UInt8) : Prop := 4 ≤ q.length ∧ fx q 0 4 ≤ 131072 ∧ fx q 0 4 ≤ (q.length : Int) - 4
instance (q : List UInt8) : Decidable (FrameOk q) := inferInstanceAs (Decidable (_ ∧ _))
def frN (q : List UInt8) : Nat := (fx q 0 4).toNat

theorem frN_le {q : List UInt8} (h : FrameOk q) : (frN q : Int) = fx q 0 4 ∧ frN q ≤ 131072 ∧ 4 + frN q ≤ q.length := by
  unfold FrameOk at h
  have := fx_lt (P := q) (a := 0) (b := 4) (by decide)
  unfold frN
  omega

/-- The frames that bytes are. -/
def framesOf (q : List UInt8) : List (List UInt8) :=
  if FrameOk q then ((q.drop 4).take (frN q)) :: framesOf (q.drop (4 + frN q)) else []
termination_by q.length
decreasing_by
  have := (frN_le (by assumption)).2.2
  rw [List.length_drop]
  omega

theorem fr_yes {q : List UInt8} (h : FrameOk q) : framesOf q = ((q.drop 4).take (frN q)) :: framesOf (q.drop (4 + frN q)) := by rw [framesOf, if_pos h]
theorem fr_no {q : List UInt8} (h : ¬ FrameOk q) : framesOf q = [] := by rw [framesOf, if_neg h]

theorem fr_len : ∀ (n : Nat) (q : List UInt8), q.length ≤ n → 4 * (framesOf q).length ≤ q.length
  | 0, q, h => by
    rw [fr_no (fun k => by unfold FrameOk at k; omega)]; simp
  | n + 1, q, h => by
    by_cases k : FrameOk q
    · have h1 := (frN_le k).2.2
      have h2 := fr_len n (q.drop (4 + frN q)) (by rw [List.length_drop]; omega)
      rw [List.length_drop] at h2
      rw [fr_yes k, List.length_cons]
      omega
    · rw [fr_no k]; simp

/-- Frames one behind the other. -/
def joinB (l : List (List UInt8)) : List UInt8 := (l.map fun b => fixed b.length 4 ++ b).flatten
theorem joinB_take {l : List (List UInt8)} {i : Nat} {x : List UInt8} (h : l[i]? = some x) : joinB (l.take (i + 1)) = joinB (l.take i) ++ (fixed x.length 4 ++ x) := by
  simp [joinB, List.take_add_one, h]
theorem fr_join : ∀ {l : List (List UInt8)} (t : List UInt8), (∀ b ∈ l, b.length ≤ 131072) → framesOf (joinB l ++ t) = l ++ framesOf t
  | [], t, _ => rfl
  | b :: l, t, h => by
    have hb := h b List.mem_cons_self
    have e : joinB (b :: l) ++ t = fixed b.length 4 ++ (b ++ (joinB l ++ t)) := by simp [joinB]
    have p4 : (256 : Int) ^ 4 = 4294967296 := by decide
    have hf : fx (joinB (b :: l) ++ t) 0 4 = (b.length : Int) := fx_eq (pre := []) (n := (b.length : Int)) (k := 4) (post := b ++ (joinB l ++ t)) (by rw [e]; rfl) rfl rfl (by omega) (by rw [p4]; omega)
    have hl : (joinB (b :: l) ++ t).length = 4 + b.length + (joinB l ++ t).length := by rw [e]; simp only [List.length_append, fixed_len]; omega
    have hk : FrameOk (joinB (b :: l) ++ t) := by
      unfold FrameOk
      rw [hf, hl]
      omega
    have hn : frN (joinB (b :: l) ++ t) = b.length := by unfold frN; rw [hf]; simp
    rw [fr_yes hk, hn, e, List.drop_left' (fixed_len _ _), List.take_left, ← List.append_assoc, List.drop_left' (by rw [List.length_append, fixed_len]), fr_join t fun x hx => h x (List.mem_cons_of_mem _ hx)]
    rfl

abbrev blsV (l : List (List UInt8)) : AV := .sl .none 0 (blsL l)
theorem Cl.blsV (l : List (List UInt8)) : Cl (blsV l) := Cl.sl (ClL.bls l)

structure JnI (l : List (List UInt8)) where
  i : Nat
  hi : i ≤ l.length
  h : ∀ b ∈ l.take i, b.length ≤ 131072

theorem frJoin {l : List (List UInt8)} (hl : l.length ≤ 100000) (ht : (joinB l).length ≤ 100000000) (hb : ∀ b ∈ l, b.length ≤ 131072) : CallOK Try.prog 45 [blsV l] [] 0 (Out (.tup [bs (joinB l), .int .i64 0]) [] 0) := by
  refine CallOK.fit (by decide) ?_
  refine callOK Try.call45 Try.func45 Try.ntmps45 rfl ?_
  conv => arg 4; whnf
  refine tri_loopG (ι := JnI l) (fun a => ⟨[(11, .int .i64 a.i), (10, .int .i64 l.length), (9, blsV l), (4, bs (joinB (l.take a.i)))], [], 0, 33⟩) (fun a => l.length - a.i) ⟨0, Nat.zero_le _, by simp⟩ (WkG.of rfl rfl ⟨Le.refl _ _, Le.of_eq (congrArg (fun n : Nat => AV.int .i64 n) (bls_length l)), Le.refl _ _, Le.nils, trivial⟩ trivial ⟨rfl, rfl, Cl.blsV _ _, Cl.bs _ _, trivial⟩ trivial) ?_
  rintro ⟨i, hi, -⟩
  dsimp only
  conv => arg 4; whnf
  refine ⟨fun h => ?_, fun h => ?_⟩
  · have h : i < l.length := by simp at h; omega
    obtain ⟨x, hx⟩ : ∃ x, l[i]? = some x := ⟨_, List.getElem?_eq_getElem h⟩
    have hxl := hb x (List.mem_of_getElem? hx)
    have hjl : (joinB (l.take (i + 1))).length ≤ (joinB l).length := by
      have : joinB l = joinB (l.take (i + 1)) ++ joinB (l.drop (i + 1)) := by rw [joinB, joinB, joinB, ← List.flatten_append, ← List.map_append, List.take_append_drop]
      rw [this, List.length_append]; omega
    have hjt := joinB_take hx
    have hcc : (joinB (l.take (i + 1))).length = (joinB (l.take i)).length + (4 + x.length) := by rw [hjt]; simp only [List.length_append, fixed_len]
    (conv => arg 4; whnf); repeat (refine ⟨rfl, ?_⟩; conv => arg 4; whnf)
    refine ⟨_, ⟨by omega, bls_get hx⟩, ?_⟩
    (conv => arg 4; whnf); repeat (refine ⟨rfl, ?_⟩; conv => arg 4; whnf)
    have q1 : decide (((u8s x).length : Int) > 131072) = false := by rw [u8s_length]; simp; omega
    refine ⟨fun h' => absurd (q1.symm.trans h') (by decide), fun _ => ?_⟩
    conv => arg 4; whnf
    refine holds_args (args' := [.ptr 0 0, .int .i64 x.length, .int .i64 4]) ⟨Le.refl _ _, Le.of_eq (congrArg (fun n : Nat => AV.int .i64 n) (u8s_length _)), Le.refl _ _, trivial⟩ ?_
    refine holds_wnew 0 0 [.bl false] [.bool false] rfl (LeL.cons Le.bl (LeL.nil _)) (by decide) ?_
    refine callWE 0 1 (wFixedT (l := []) (n := (x.length : Int)) (size := 4) (by unfold I64; omega) (fits4 (by omega) (by omega)) (by simp)) (by decide) (by decide) rfl rfl (ClL.u8s _) (ClL.cons (Cl.bool _) ClL.nil) (ClL.u8s _) (ClL.cons (Cl.bool _) ClL.nil) rfl rfl fun s1 => ?_
    (conv => arg 4; whnf); repeat (refine ⟨rfl, ?_⟩; conv => arg 4; whnf)
    refine callWD 0 1 (wDoneT (by simp [fixed_len])) (by decide) (by decide) rfl rfl (ClL.u8s _) (ClL.cons (Cl.bool _) ClL.nil) (ClL.u8s _) (ClL.cons (Cl.bool _) ClL.nil) (ClL.u8s _) (ClL.cons (Cl.bl _) ClL.nil) rfl fun s2 => ?_
    (conv => arg 4; whnf); repeat (refine ⟨rfl, ?_⟩; conv => arg 4; whnf)
    have hlen3 : [joinB (l.take i), fixed x.length 4, x].flatten.length ≤ 1000000000 := by
      simp only [List.flatten_cons, List.flatten_nil, List.length_append, List.length_nil, fixed_len]; omega
    refine holds_args (args' := [.sl .none 0 (blsL [joinB (l.take i), fixed x.length 4, x])]) ⟨Le.slL (LeL.cons (Le.refl _ _) (LeL.cons Le.none (LeL.cons (Le.refl _ _) (LeL.nil _)))) (fun h => by cases h), trivial⟩ ?_
    refine callT (concat (ls := [joinB (l.take i), fixed x.length 4, x]) (by simp) hlen3) (ClL.cons (Cl.sl (ClL.bls _)) ClL.nil) (ClL.u8s _) fun s8 => ?_
    (conv => arg 4; whnf); repeat (refine ⟨rfl, ?_⟩; conv => arg 4; whnf)
    refine ⟨⟨i + 1, by omega, fun b h => hb b (List.mem_of_mem_take h)⟩, ?_, WkG.of rfl rfl ⟨Le.of_eq (succ_i64 (by omega)), Le.refl _ _, Le.refl _ _, Le.noneOf ?_, trivial⟩ trivial ⟨rfl, rfl, Cl.blsV _ _, Cl.bs _ _, trivial⟩ trivial⟩
    · show l.length - (i + 1) < l.length - i
      omega
    · rw [hjt]; simp
  · have h : i = l.length := by simp at h; omega
    subst h
    rw [show l.take l.length = l from List.take_length]
    conv => arg 4; whnf
    refine fin_exit ?_
    show holds _ _ _ _
    conv => arg 4; whnf
    exact ⟨by decide, by (repeat' (first | with_reducible exact Le.refl _ _ | exact Le.bl | exact Le.lb | exact Le.nils | exact Le.nilsFull | exact Le.none | exact LeL.nil _ | refine LeL.cons ?_ ?_ | refine Le.tup ?_ | refine Le.agg ?_ | exact Le.refl _ _ | exact LeL.refl _ _)), trivial, Cl.tup (ClL.cons (Cl.bs _) (ClL.cons (Cl.int _ _) ClL.nil)) _, trivial⟩

theorem frFrames {p : List UInt8} : CallOK Try.prog 76 [bs p] [] 0 (Out (.fn 84 [.ptr 0 0]) [(0, .cells [bs p])] 1) := by
  refine callOK Try.call76 Try.func76 Try.ntmps76 rfl ?_
  conv => arg 4; whnf
  exact ⟨rfl, rfl, rfl⟩

theorem headFx {q r : List UInt8} {v e : Int} (h : fixedR (q.take (min 4 q.length)) 0 4 = (v, r, e)) : (4 ≤ q.length → v = fx q 0 4 ∧ e = 0) ∧ (q.length < 4 → e ≠ 0) := by
  constructor
  · intro k
    have h2 := fixedR_few (b := q.take (min 4 q.length)) (k := 4) (by decide) (by rw [List.length_take]; omega)
    rw [show fixedR (q.take (min 4 q.length)) 0 (4 : Nat) = (v, r, e) from h, Nat.min_eq_left k] at h2
    simp only [Prod.mk.injEq] at h2
    refine ⟨?_, h2.2.2⟩
    rw [h2.1, fx, List.take_take, List.drop_zero]
    rfl
  · intro k
    have := fixedR_short (b := q.take (min 4 q.length)) (e := 0) (k := 4) (by decide) (by simp; omega)
    rw [show fixedR (q.take (min 4 q.length)) 0 (4 : Nat) = (v, r, e) from h] at this
    exact this

theorem headCond {q : List UInt8} {v e : Int} (hl : q.length ≤ 1000000) (h : (4 ≤ q.length → v = fx q 0 4 ∧ e = 0) ∧ (q.length < 4 → e ≠ 0)) :
    (bif bif e != 0 then true else decide (v > 131072) then true else decide (v > IntKind.i64.wrap (((u8s q).length : Int) - 4))) = !decide (FrameOk q) := by
  have e4 : IntKind.i64.wrap ((q.length : Int) - 4) = (q.length : Int) - 4 := by rw [IntKind.wrap_i64]; omega
  rw [u8s_length, e4]
  unfold FrameOk
  by_cases k : 4 ≤ q.length
  · obtain ⟨rfl, rfl⟩ := h.1 k
    by_cases k1 : fx q 0 4 ≤ 131072 <;> by_cases k2 : fx q 0 4 ≤ (q.length : Int) - 4 <;> simp [k, k1, k2] <;> omega
  · have := h.2 (by omega)
    simp [this, k]

structure FkI (p : List UInt8) (most : Nat) where
  q : List UInt8
  l : List (List UInt8)
  s : Nat
  hq : q.length ≤ p.length
  hm : l.length ≤ most
  h : framesOf p = l ++ framesOf q

theorem frWalk {p : List UInt8} {most : Nat} (hl : p.length ≤ 1000000) (hm : most ≤ 9223372036854775807) : CallOK Try.prog 46 [bs p, .int .i64 most] [] 0 (Out (blsV ((framesOf p).take most)) [] 0) := by
  refine CallOK.fit (by decide) ?_
  refine callOK Try.call46 Try.func46 Try.ntmps46 rfl ?_
  conv => arg 4; whnf
  refine holds_out [] (frFrames (p := p)) rfl trivial (ClL.cons (Cl.bs p) ClL.nil _).symm ?_
  conv => arg 4; whnf
  simp only [renL_u8s]
  refine holds_pre (args' := [.yld 3, .ptr 2 0]) (h' := (3, .loop _ _ _ _ _ _) :: (2, .cells [bs p]) :: (1, .cells [.sl (.tok 4 0) 0 (blsL [])]) :: (0, .cells [.int .i64 most]) :: [(4, .tip 0)]) (nx' := 5)
    ((Gh.token _ _ _ _).trans (Gh.le (fun _ => Le.refl _ _) (HeapLe.le ⟨⟨_, rfl, LeO.refl _ _⟩, ⟨_, rfl, LeO.refl _ _⟩, ⟨_, rfl, LeL.cons (Le.nilsTok rfl) (LeL.nil _)⟩, ⟨_, rfl, LeO.refl _ _⟩, ⟨_, rfl, rfl⟩, trivial⟩))) rfl ?_
  refine callOK Try.call84 Try.func84 Try.ntmps84 rfl ?_
  conv => arg 4; whnf
  refine tri_loopG (ι := FkI p most) (fun a => ⟨[(3, bs a.q), (0, .yld 3)], [(3, loopOf Try.f46 0 [(5, .ptr 1 0), (3, .ptr 0 0)] 23 .ready), (2, .cells [bs p]), (1, .cells [.sl (.tok 4 a.s) 0 (blsL a.l)]), (0, .cells [.int .i64 most]), (4, .tip a.s)], 5, 41⟩) (fun a => a.q.length) ⟨p, [], 0, Nat.le_refl _, Nat.zero_le _, rfl⟩ ?_ ?_
  · exact WkG.of rfl rfl ⟨Le.refl _ _, Le.refl _ _, trivial⟩ ⟨⟨_, rfl, LeO.loop ⟨Le.refl _ _, Le.refl _ _, trivial⟩ rfl rfl rfl⟩, ⟨_, rfl, LeO.refl _ _⟩, ⟨_, rfl, LeO.refl _ _⟩, ⟨_, rfl, LeO.refl _ _⟩, ⟨_, rfl, LeO.refl _ _⟩, trivial⟩ ⟨Cl.bs _ _, rfl, trivial⟩ ⟨⟨by decide, rfl⟩, ⟨by decide, ClO.cells (by (repeat' (first | with_reducible assumption | exact ClL.nil | exact Cl.int _ _ | exact Cl.bool _ | exact Cl.bl _ | exact Cl.bs _ | exact Cl.str _ | exact Cl.nils | exact Cl.nilp | exact Cl.rec _ | exact Cl.bat _ | exact Cl.recsV _ | exact Cl.strsV _ | exact Cl.intsV _ | exact Cl.req _ | exact Cl.rsp _ | exact Cl.reqA _ | exact Cl.rspA _ | exact Cl.batsV _ | exact Cl.getB _ | exact Cl.encA _ | exact Cl.firstA _ | refine ClL.cons ?_ ?_ | refine Cl.tup ?_ | refine Cl.agg ?_ | exact ClO.RO _ _))) _⟩, ⟨by decide, rfl⟩, ⟨by decide, rfl⟩, ⟨by decide, rfl⟩, trivial⟩
  rintro ⟨q, l, s, hq, hm, hh⟩
  dsimp only
  conv => arg 4; whnf
  have hmin : (if 4 < ((u8s q).length : Int) then (4 : Int) else ((u8s q).length : Int)) = ((min 4 q.length : Nat) : Int) := by rw [u8s_length]; split <;> omega
  rw [hmin]
  refine ⟨⟨by omega, by rw [u8s_length]; omega⟩, ?_⟩
  (conv => arg 4; whnf); repeat (refine ⟨rfl, ?_⟩; conv => arg 4; whnf)
  refine holds_args (args' := [bs (q.take (min 4 q.length))]) ⟨Le.of_eq (congrArg (AV.sl .none 0) (by rw [Int.toNat_natCast, u8s_take])), trivial⟩ ?_
  refine callNew (newReader (b := q.take (min 4 q.length)) (by simp; omega)) (ClL.cons (Cl.bs _) ClL.nil) (ClO.RO _ _) ?_
  (conv => arg 4; whnf); repeat (refine ⟨rfl, ?_⟩; conv => arg 4; whnf)
  refine call1E 5 (rFixedE (b := q.take (min 4 q.length)) (e := 0) (size := 4) (by unfold I64; omega) (by simp; omega)) rfl rfl (ClO.RO _ _) (fun x => ClO.RO _ _) rfl (fun x => Cl.int _ _) fun x1 h1 => ?_
  have hfx := headFx h1.1
  (conv => arg 4; whnf); repeat (refine ⟨rfl, ?_⟩; conv => arg 4; whnf)
  refine call1 5 rErrE rfl rfl (ClO.RO _ _) (ClO.RO _ _) rfl (Cl.int _ _) ?_
  (conv => arg 4; whnf); repeat (refine ⟨rfl, ?_⟩; conv => arg 4; whnf)
  have hcond := headCond (q := q) (by omega) hfx
  refine ⟨fun hb => ?_, fun hb => ?_⟩
  · have hb : ¬ FrameOk q := by rw [hcond] at hb; simpa using hb
    rw [fr_no hb, List.append_nil] at hh
    (conv => arg 4; whnf); repeat (refine ⟨rfl, ?_⟩; conv => arg 4; whnf)
    refine fin_ret ?_
    show holds _ _ _ _
    conv => arg 4; whnf
    refine ret_in ?_
    show holds _ _ _ _
    conv => arg 4; whnf
    refine ⟨by decide, ?_, trivial, Cl.blsV _ _, trivial⟩
    rw [hh, List.take_of_length_le hm]
    (repeat' (first | with_reducible exact Le.refl _ _ | exact Le.bl | exact Le.lb | exact Le.nils | exact Le.nilsFull | exact Le.none | exact LeL.nil _ | refine LeL.cons ?_ ?_ | refine Le.tup ?_ | refine Le.agg ?_ | exact Le.refl _ _ | exact LeL.refl _ _))
  · have hb : FrameOk q := by rw [hcond] at hb; simpa using hb
    have hn := frN_le hb
    have hv : x1.v = (frN q : Int) := by rw [hn.1]; exact (hfx.1 hb.1).1
    have hw : IntKind.i64.wrap (4 + (frN q : Int)) = ((4 + frN q : Nat) : Int) := by rw [IntKind.wrap_i64]; omega
    rw [hv]
    (conv => arg 4; whnf); repeat (refine ⟨rfl, ?_⟩; conv => arg 4; whnf)
    rw [hw]
    refine ⟨⟨by omega, by rw [u8s_length]; omega⟩, ?_⟩
    (conv => arg 4; whnf); repeat (refine ⟨rfl, ?_⟩; conv => arg 4; whnf)
    refine holds_args (args' := [bs ((q.drop 4).take (frN q))]) ⟨Le.of_eq (congrArg (AV.sl .none 0) (by rw [Int.toNat_natCast, u8s_take, u8s_drop]; exact congrArg u8s (by rw [List.drop_take, show 4 + frN q - Int.toNat 4 = frN q from by omega]; rfl))), trivial⟩ ?_
    refine call0 (clone (by simp; omega)) (by (repeat' (first | with_reducible assumption | exact ClL.nil | exact Cl.int _ _ | exact Cl.bool _ | exact Cl.bl _ | exact Cl.bs _ | exact Cl.str _ | exact Cl.nils | exact Cl.nilp | exact Cl.rec _ | exact Cl.bat _ | exact Cl.recsV _ | exact Cl.strsV _ | exact Cl.intsV _ | exact Cl.req _ | exact Cl.rsp _ | exact Cl.reqA _ | exact Cl.rspA _ | exact Cl.batsV _ | exact Cl.getB _ | exact Cl.encA _ | exact Cl.firstA _ | refine ClL.cons ?_ ?_ | refine Cl.tup ?_ | refine Cl.agg ?_ | exact ClO.RO _ _))) (Cl.bs _) ?_
    (conv => arg 4; whnf); repeat (refine ⟨rfl, ?_⟩; conv => arg 4; whnf)
    refine round_in ?_
    conv => arg 4; whnf
    refine ⟨fun hm2 => ?_, fun hm2 => ?_⟩
    · have hm2 : l.length = most := by rw [bls_length] at hm2; simp at hm2; omega
      conv => arg 4; whnf
      refine ⟨fun _ => ?_, fun h => absurd h (by first | (simp; done) | (simp [u8s]; done))⟩
      conv => arg 4; whnf
      refine fin_ret ?_
      show holds _ _ _ _
      conv => arg 4; whnf
      refine ret_in ?_
      show holds _ _ _ _
      conv => arg 4; whnf
      refine ⟨by decide, ?_, trivial, Cl.blsV _ _, trivial⟩
      rw [hh, ← hm2, List.take_left' rfl]
      (repeat' (first | with_reducible exact Le.refl _ _ | exact Le.bl | exact Le.lb | exact Le.nils | exact Le.nilsFull | exact Le.none | exact LeL.nil _ | refine LeL.cons ?_ ?_ | refine Le.tup ?_ | refine Le.agg ?_ | exact Le.refl _ _ | exact LeL.refl _ _))
    · have hm2 : l.length < most := by rw [bls_length] at hm2; simp at hm2; omega
      have hfl : 4 * (l.length + 1) ≤ p.length := by
        have := fr_len p.length p (Nat.le_refl _)
        rw [hh, fr_yes hb, List.length_append, List.length_cons] at this
        omega
      conv => arg 4; whnf
      refine ⟨⟨rfl, sizeOk 24 rfl (by rw [List.length_append, bls_length]; simp only [List.length_cons, List.length_nil]; omega)⟩, ?_⟩
      conv => arg 4; whnf
      refine ⟨fun h => absurd h (by first | (simp; done) | (simp [u8s]; done)), fun _ => ?_⟩
      conv => arg 4; whnf
      rw [hw]
      refine ⟨⟨by omega, by rw [u8s_length]; omega⟩, ?_⟩
      (conv => arg 4; whnf); repeat (refine ⟨rfl, ?_⟩; conv => arg 4; whnf)
      refine ⟨⟨q.drop (4 + frN q), l ++ [(q.drop 4).take (frN q)], s + 1, by rw [List.length_drop]; omega, by simp; omega, by rw [hh, fr_yes hb, List.append_assoc]; rfl⟩, ?_, WkG.of rfl rfl ⟨Le.of_eq (congrArg (AV.sl .none 0) ?_), Le.refl _ _, trivial⟩ ⟨⟨_, rfl, LeO.loop ⟨Le.refl _ _, Le.refl _ _, trivial⟩ rfl rfl rfl⟩, ⟨_, rfl, LeO.refl _ _⟩, ⟨_, rfl, LeL.cons (Le.of_eq ?_) (LeL.nil _)⟩, ⟨_, rfl, LeO.refl _ _⟩, ⟨_, rfl, LeO.refl _ _⟩, trivial⟩ ⟨Cl.bs _ _, rfl, trivial⟩ ⟨⟨by decide, rfl⟩, ⟨by decide, ClO.cells (by (repeat' (first | with_reducible assumption | exact ClL.nil | exact Cl.int _ _ | exact Cl.bool _ | exact Cl.bl _ | exact Cl.bs _ | exact Cl.str _ | exact Cl.nils | exact Cl.nilp | exact Cl.rec _ | exact Cl.bat _ | exact Cl.recsV _ | exact Cl.strsV _ | exact Cl.intsV _ | exact Cl.req _ | exact Cl.rsp _ | exact Cl.reqA _ | exact Cl.rspA _ | exact Cl.batsV _ | exact Cl.getB _ | exact Cl.encA _ | exact Cl.firstA _ | refine ClL.cons ?_ ?_ | refine Cl.tup ?_ | refine Cl.agg ?_ | exact ClO.RO _ _))) _⟩, ⟨by decide, ?_⟩, ⟨by decide, rfl⟩, ⟨by decide, rfl⟩, trivial⟩⟩
      · show (q.drop (4 + frN q)).length < q.length
        rw [List.length_drop]; omega
      · rw [Int.toNat_natCast, u8s_drop]
      · simp [blsL]
      · simp only [renO, renL, ren, ClL.bls _ _, renP, cut_lt (show 4 < 5 by decide)]

theorem cutB {n s : Nat} {l : List (List UInt8)} : ren (cut 1 n) (.sl (.tok 0 s) 0 (blsL l)) = .sl (.tok 0 s) 0 (blsL l) := by
  simp only [ren, ClL.bls _ _, renP, cut_lt (show 0 < 1 by decide)]

theorem refCond {q : List UInt8} (hl : q.length ≤ 1000000) (k : 4 ≤ q.length) :
    (bif decide (fx q 0 4 > 131072) then true else decide (fx q 0 4 > IntKind.i64.wrap (((u8s q).length : Int) - 4))) = !decide (FrameOk q) := by
  have := headCond (v := fx q 0 4) (e := 0) hl ⟨fun _ => ⟨rfl, rfl⟩, fun h => by omega⟩
  exact this

structure RfI (p : List UInt8) where
  q : List UInt8
  l : List (List UInt8)
  s : Nat
  hq : q.length ≤ p.length
  h : framesOf p = l ++ framesOf q

theorem refFrames {p : List UInt8} (hl : p.length ≤ 1000000) : CallOK Try.prog 47 [bs p] [] 0 (Out (blsV (framesOf p)) [] 0) := by
  refine CallOK.fit (by decide) ?_
  refine callOK Try.call47 Try.func47 Try.ntmps47 rfl ?_
  conv => arg 4; whnf
  refine tri_loopG (ι := RfI p) (fun a => ⟨[(3, .sl (.tok 0 a.s) 0 (blsL a.l)), (0, bs a.q)], [(0, .tip a.s)], 1, 33⟩) (fun a => a.q.length) ⟨p, [], 0, Nat.le_refl _, rfl⟩ (WkG.tok rfl rfl ⟨Le.nilsTok rfl, Le.refl _ _, trivial⟩ ⟨⟨_, rfl, rfl⟩, trivial⟩ ⟨cutB, Cl.bs _ _, trivial⟩ ⟨⟨by decide, rfl⟩, trivial⟩) ?_
  rintro ⟨q, l, s, hq, hh⟩
  dsimp only
  conv => arg 4; whnf
  refine ⟨fun h => ?_, fun h => ?_⟩
  · have h : 4 ≤ q.length := by rw [u8s_length] at h; simp at h; omega
    (conv => arg 4; whnf); repeat (refine ⟨rfl, ?_⟩; conv => arg 4; whnf)
    refine ⟨⟨by omega, by rw [u8s_length]; omega⟩, ?_⟩
    (conv => arg 4; whnf); repeat (refine ⟨rfl, ?_⟩; conv => arg 4; whnf)
    refine call0 (getFx0 (P := q) (b := 4) (by decide)) (clFx0 _ _) (Cl.int _ _) ?_
    (conv => arg 4; whnf); repeat (refine ⟨rfl, ?_⟩; conv => arg 4; whnf)
    have hcond := refCond (q := q) (by omega) h
    refine ⟨fun hb => ?_, fun hb => ?_⟩
    · have hb : ¬ FrameOk q := by rw [hcond] at hb; simpa using hb
      rw [fr_no hb, List.append_nil] at hh
      (conv => arg 4; whnf); repeat (refine ⟨rfl, ?_⟩; conv => arg 4; whnf)
      refine fin_ret ?_
      refine ⟨by decide, ?_, trivial, Cl.blsV _ _, trivial⟩
      rw [hh]
      (repeat' (first | with_reducible exact Le.refl _ _ | exact Le.bl | exact Le.lb | exact Le.nils | exact Le.nilsFull | exact Le.none | exact LeL.nil _ | refine LeL.cons ?_ ?_ | refine Le.tup ?_ | refine Le.agg ?_ | exact Le.refl _ _ | exact LeL.refl _ _))
    · have hb : FrameOk q := by rw [hcond] at hb; simpa using hb
      have hn := frN_le hb
      have hw : IntKind.i64.wrap (4 + (frN q : Int)) = ((4 + frN q : Nat) : Int) := by rw [IntKind.wrap_i64]; omega
      have hfl : 4 * (l.length + 1) ≤ p.length := by
        have := fr_len p.length p (Nat.le_refl _)
        rw [hh, fr_yes hb, List.length_append, List.length_cons] at this
        omega
      rw [← hn.1]
      (conv => arg 4; whnf); repeat (refine ⟨rfl, ?_⟩; conv => arg 4; whnf)
      rw [hw]
      refine ⟨⟨by omega, by rw [u8s_length]; omega⟩, ?_⟩
      (conv => arg 4; whnf); repeat (refine ⟨rfl, ?_⟩; conv => arg 4; whnf)
      refine ⟨⟨rfl, sizeOk 24 rfl (by rw [List.length_append, bls_length]; simp only [List.length_cons, List.length_nil]; omega)⟩, ?_⟩
      (conv => arg 4; whnf); repeat (refine ⟨rfl, ?_⟩; conv => arg 4; whnf)
      rw [hw]
      refine ⟨⟨by omega, by rw [u8s_length]; omega⟩, ?_⟩
      (conv => arg 4; whnf); repeat (refine ⟨rfl, ?_⟩; conv => arg 4; whnf)
      refine ⟨⟨q.drop (4 + frN q), l ++ [(q.drop 4).take (frN q)], s + 1, by rw [List.length_drop]; omega, by rw [hh, fr_yes hb, List.append_assoc]; rfl⟩, ?_, WkG.of rfl rfl ⟨Le.of_eq (congrArg (AV.sl _ 0) ?_), Le.of_eq (congrArg (AV.sl .none 0) ?_), trivial⟩ ⟨⟨_, rfl, LeO.refl _ _⟩, trivial⟩ ⟨cutB, Cl.bs _ _, trivial⟩ ⟨⟨by decide, rfl⟩, trivial⟩⟩
      · show (q.drop (4 + frN q)).length < q.length
        rw [List.length_drop]; omega
      · rw [Int.toNat_natCast, u8s_take, u8s_drop, List.drop_take, show 4 + frN q - Int.toNat 4 = frN q from by omega]
        simp [blsL]
      · rw [Int.toNat_natCast, u8s_drop]
  · have h : ¬ 4 ≤ q.length := by rw [u8s_length] at h; simp at h; omega
    have hb : ¬ FrameOk q := fun k => h k.1
    rw [fr_no hb, List.append_nil] at hh
    conv => arg 4; whnf
    refine fin_exit ?_
    show holds _ _ _ _
    conv => arg 4; whnf
    refine ⟨by decide, ?_, trivial, Cl.blsV _ _, trivial⟩
    rw [hh]
    (repeat' (first | with_reducible exact Le.refl _ _ | exact Le.bl | exact Le.lb | exact Le.nils | exact Le.nilsFull | exact Le.none | exact LeL.nil _ | refine LeL.cons ?_ ?_ | refine Le.tup ?_ | refine Le.agg ?_ | exact Le.refl _ _ | exact LeL.refl _ _))
end Go.Proofs.Ytbehegpahiefaaa.Pr

namespace Go.Proofs.Ytbehegpahiefaaa.Pr
set_option maxRecDepth 100000
set_option maxHeartbeats 80000000
open Go.Sym

structure FsI (l : List (List UInt8)) where
  i : Nat
  n : Int
  hi : i ≤ l.length
  h0 : 0 ≤ n
  h1 : n ≤ 1099511627776
  h : n < 1099511627776 → n = (joinB (l.take i)).length

structure CmI (l : List (List UInt8)) where
  i : Nat
  hi : i ≤ l.length

theorem joinB_le {l : List (List UInt8)} : 4 * l.length ≤ (joinB l).length ∧ ∀ b ∈ l, b.length ≤ (joinB l).length := by
  induction l with
  | nil => exact ⟨by simp, by simp⟩
  | cons x l ih =>
    have e : (joinB (x :: l)).length = 4 + x.length + (joinB l).length := by
      simp [joinB, fixed_len]; omega
    rw [e]
    refine ⟨by simp only [List.length_cons]; omega, fun b hb => ?_⟩
    rcases List.mem_cons.mp hb with rfl | hb
    · omega
    · have := ih.2 b hb; omega

theorem lawFrames {l : List (List UInt8)} {t : List UInt8} {n : Int} (hl : l.length ≤ 1000000000000000) (hn : I64 n) : CallOK Try.prog 10 [blsV l, bs t, .int .i64 n] [] 0 Tru := by
  refine callOK Try.call10 Try.func10 Try.ntmps10 rfl ?_
  conv => arg 4; whnf
  refine tri_loopG (ι := FsI l) (fun a => ⟨[(8, .int .i64 a.i), (7, .int .i64 a.n), (0, blsV l), (1, bs t), (2, .int .i64 n)], [], 0, 121⟩) (fun a => l.length - a.i) ⟨0, 0, Nat.zero_le _, by decide, by decide, fun _ => rfl⟩ (WkG.of rfl rfl ⟨Le.refl _ _, Le.refl _ _, Le.refl _ _, Le.refl _ _, Le.refl _ _, trivial⟩ trivial ⟨rfl, rfl, Cl.blsV _ _, Cl.bs _ _, rfl, trivial⟩ trivial) ?_
  rintro ⟨i, w, hi, h0, h1, hw⟩
  dsimp only
  conv => arg 4; whnf
  refine ⟨fun h => ?_, fun h => ?_⟩
  · rw [bls_length] at h
    simp only [Bool.cond_true_left, Bool.cond_false_right, Bool.or_eq_true, Bool.and_eq_true, Bool.not_eq_true', decide_eq_true_eq, beq_iff_eq, bne_iff_ne, u8s_length, Bool.not_eq_true, gt_iff_lt, ge_iff_le] at h
    have h : i < l.length ∧ w ≤ 3000 := by omega
    obtain ⟨x, hx⟩ : ∃ x, l[i]? = some x := ⟨_, List.getElem?_eq_getElem h.1⟩
    have hjt := joinB_take hx
    have hcc : (joinB (l.take (i + 1))).length = (joinB (l.take i)).length + (4 + x.length) := by rw [hjt]; simp only [List.length_append, fixed_len]
    (conv => arg 4; whnf); repeat (refine ⟨rfl, ?_⟩; conv => arg 4; whnf)
    refine ⟨_, ⟨by omega, bls_get hx⟩, ?_⟩
    (conv => arg 4; whnf); repeat (refine ⟨rfl, ?_⟩; conv => arg 4; whnf)
    have hx1 : ∀ y ∈ [(x.length : Int), 4], 0 ≤ y := by intro y hy; simp at hy; omega
    refine holds_args (args' := [_, .sl .none 0 (ints [(x.length : Int), 4])]) ⟨Le.refl _ _, Le.noneOf (by rw [u8s_length]; rfl), trivial⟩ ?_
    refine call0E (sumE ⟨by omega, by omega⟩ hx1 (by simp)) (ClL.cons (Cl.int _ _) (ClL.cons (Cl.intsV _) ClL.nil)) (fun x => by (repeat' (first | with_reducible assumption | exact ClL.nil | exact Cl.int _ _ | exact Cl.bool _ | exact Cl.bl _ | exact Cl.bs _ | exact Cl.str _ | exact Cl.nils | exact Cl.nilp | exact Cl.rec _ | exact Cl.bat _ | exact Cl.recsV _ | exact Cl.strsV _ | exact Cl.intsV _ | exact Cl.req _ | exact Cl.rsp _ | exact Cl.reqA _ | exact Cl.rspA _ | exact Cl.batsV _ | exact Cl.getB _ | exact Cl.encA _ | exact Cl.firstA _ | refine ClL.cons ?_ ?_ | refine Cl.tup ?_ | refine Cl.agg ?_ | exact ClO.RO _ _))) fun v hv' => ?_
    (conv => arg 4; whnf); repeat (refine ⟨rfl, ?_⟩; conv => arg 4; whnf)
    refine ⟨⟨i + 1, v, by omega, hv'.1, hv'.2.1, fun h5 => ?_⟩, by show l.length - (i + 1) < l.length - i; omega, WkG.of rfl rfl ⟨Le.of_eq (succ_i64 (by omega)), Le.refl _ _, Le.refl _ _, Le.refl _ _, Le.refl _ _, trivial⟩ trivial ⟨rfl, rfl, Cl.blsV _ _, Cl.bs _ _, rfl, trivial⟩ trivial⟩
    have h6 := hv'.2.2 (by omega)
    simp only [List.sum_cons, List.sum_nil] at h6
    have h7 := hw (by omega)
    rw [hcc]
    omega
  · rw [bls_length] at h
    rw [← Bool.not_eq_true] at h; simp only [Bool.cond_true_left, Bool.cond_false_right, Bool.or_eq_true, Bool.and_eq_true, Bool.not_eq_true', decide_eq_true_eq, beq_iff_eq, bne_iff_ne, u8s_length, gt_iff_lt, ge_iff_le] at h
    conv => arg 4; whnf
    refine fin_exit ?_
    show holds _ _ _ _
    conv => arg 4; whnf
    refine ⟨fun h2 => ?_, fun h2 => ?_⟩
    · (conv => arg 4; whnf); repeat (refine ⟨rfl, ?_⟩; conv => arg 4; whnf)
      refine call0 awake20 (by (repeat' (first | with_reducible assumption | exact ClL.nil | exact Cl.int _ _ | exact Cl.bool _ | exact Cl.bl _ | exact Cl.bs _ | exact Cl.str _ | exact Cl.nils | exact Cl.nilp | exact Cl.rec _ | exact Cl.bat _ | exact Cl.recsV _ | exact Cl.strsV _ | exact Cl.intsV _ | exact Cl.req _ | exact Cl.rsp _ | exact Cl.reqA _ | exact Cl.rspA _ | exact Cl.batsV _ | exact Cl.getB _ | exact Cl.encA _ | exact Cl.firstA _ | refine ClL.cons ?_ ?_ | refine Cl.tup ?_ | refine Cl.agg ?_ | exact ClO.RO _ _))) (by (repeat' (first | with_reducible assumption | exact ClL.nil | exact Cl.int _ _ | exact Cl.bool _ | exact Cl.bl _ | exact Cl.bs _ | exact Cl.str _ | exact Cl.nils | exact Cl.nilp | exact Cl.rec _ | exact Cl.bat _ | exact Cl.recsV _ | exact Cl.strsV _ | exact Cl.intsV _ | exact Cl.req _ | exact Cl.rsp _ | exact Cl.reqA _ | exact Cl.rspA _ | exact Cl.batsV _ | exact Cl.getB _ | exact Cl.encA _ | exact Cl.firstA _ | refine ClL.cons ?_ ?_ | refine Cl.tup ?_ | refine Cl.agg ?_ | exact ClO.RO _ _))) ?_
      (conv => arg 4; whnf); repeat (refine ⟨rfl, ?_⟩; conv => arg 4; whnf)
      exact .inl rfl
    · rw [u8s_length] at h2
      rw [← Bool.not_eq_true] at h2; simp only [Bool.cond_true_left, Bool.cond_false_right, Bool.or_eq_true, Bool.and_eq_true, Bool.not_eq_true', decide_eq_true_eq, beq_iff_eq, bne_iff_ne, u8s_length, gt_iff_lt, ge_iff_le] at h2
      obtain ⟨k, rfl⟩ := Int.eq_ofNat_of_zero_le (show 0 ≤ n by omega)
      unfold I64 at hn
      have hil : i = l.length := by omega
      have hw2 := hw (by omega)
      rw [hil, List.take_length] at hw2
      have hjl : (joinB l).length ≤ 3000 := by omega
      have hj := joinB_le (l := l)
      have hfr : framesOf (joinB l) = l := by
        have := fr_join (l := l) [] fun b hb => by have := hj.2 b hb; omega
        rw [List.append_nil, fr_no (q := []) (by decide), List.append_nil] at this
        exact this
      clear hw h hw2 h0 h1
      obtain ⟨y, hy⟩ : ∃ y, y = framesOf (joinB l ++ t) := ⟨_, rfl⟩
      have hyl : 4 * y.length ≤ (joinB l ++ t).length := by rw [hy]; exact fr_len _ _ (Nat.le_refl _)
      rw [List.length_append] at hyl
      (conv => arg 4; whnf); repeat (refine ⟨rfl, ?_⟩; conv => arg 4; whnf)
      refine call0 (frJoin (l := l) (by omega) (by omega) fun b hb => by have := hj.2 b hb; omega) (ClL.cons (Cl.blsV _) ClL.nil) (by (repeat' (first | with_reducible assumption | exact ClL.nil | exact Cl.int _ _ | exact Cl.bool _ | exact Cl.bl _ | exact Cl.bs _ | exact Cl.str _ | exact Cl.nils | exact Cl.nilp | exact Cl.rec _ | exact Cl.bat _ | exact Cl.recsV _ | exact Cl.strsV _ | exact Cl.intsV _ | exact Cl.req _ | exact Cl.rsp _ | exact Cl.reqA _ | exact Cl.rspA _ | exact Cl.batsV _ | exact Cl.getB _ | exact Cl.encA _ | exact Cl.firstA _ | refine ClL.cons ?_ ?_ | refine Cl.tup ?_ | refine Cl.agg ?_ | exact ClO.RO _ _))) ?_
      conv => arg 4; whnf
      refine ⟨fun h => absurd h (by first | (simp; done) | (simp [u8s]; done)), fun _ => ?_⟩
      conv => arg 4; whnf
      refine call0 (frWalk (p := joinB l) (most := 10000) (by omega) (by decide)) (by (repeat' (first | with_reducible assumption | exact ClL.nil | exact Cl.int _ _ | exact Cl.bool _ | exact Cl.bl _ | exact Cl.bs _ | exact Cl.str _ | exact Cl.nils | exact Cl.nilp | exact Cl.rec _ | exact Cl.bat _ | exact Cl.recsV _ | exact Cl.strsV _ | exact Cl.intsV _ | exact Cl.req _ | exact Cl.rsp _ | exact Cl.reqA _ | exact Cl.rspA _ | exact Cl.batsV _ | exact Cl.getB _ | exact Cl.encA _ | exact Cl.firstA _ | refine ClL.cons ?_ ?_ | refine Cl.tup ?_ | refine Cl.agg ?_ | exact ClO.RO _ _))) (Cl.blsV _) ?_
      rw [hfr, List.take_of_length_le (by omega)]
      (conv => arg 4; whnf); repeat (refine ⟨rfl, ?_⟩; conv => arg 4; whnf)
      refine ⟨fun h' => absurd h' (by simp [bls_length]), fun _ => ?_⟩
      conv => arg 4; whnf
      refine tri_loopG (ι := CmI l) (fun a => ⟨[(12, .int .i64 a.i), (11, blsV l), (9, bs (joinB l)), (0, blsV l), (1, bs t), (2, .int .i64 k)], [], 0, 121⟩) (fun a => l.length - a.i) ⟨0, Nat.zero_le _⟩ (WkG.of rfl rfl ⟨Le.refl _ _, Le.refl _ _, Le.refl _ _, Le.refl _ _, Le.refl _ _, Le.refl _ _, trivial⟩ trivial ⟨rfl, Cl.blsV _ _, Cl.bs _ _, Cl.blsV _ _, Cl.bs _ _, rfl, trivial⟩ trivial) ?_
      rintro ⟨j, hj2⟩
      dsimp only
      conv => arg 4; whnf
      refine ⟨fun h3 => ?_, fun h3 => ?_⟩
      · rw [bls_length] at h3
        simp only [Bool.cond_true_left, Bool.cond_false_right, Bool.or_eq_true, Bool.and_eq_true, Bool.not_eq_true', decide_eq_true_eq, beq_iff_eq, bne_iff_ne, u8s_length, Bool.not_eq_true, gt_iff_lt, ge_iff_le] at h3
        have h3 : j < l.length := by omega
        obtain ⟨x, hx⟩ : ∃ x, l[j]? = some x := ⟨_, List.getElem?_eq_getElem h3⟩
        (conv => arg 4; whnf); repeat (refine ⟨rfl, ?_⟩; conv => arg 4; whnf)
        refine ⟨_, ⟨by omega, bls_get hx⟩, ?_⟩
        (conv => arg 4; whnf); repeat (refine ⟨rfl, ?_⟩; conv => arg 4; whnf)
        refine ⟨x, rfl, ?_⟩
        (conv => arg 4; whnf); repeat (refine ⟨rfl, ?_⟩; conv => arg 4; whnf)
        refine ⟨_, ⟨by omega, bls_get hx⟩, ?_⟩
        (conv => arg 4; whnf); repeat (refine ⟨rfl, ?_⟩; conv => arg 4; whnf)
        refine ⟨x, rfl, ?_⟩
        (conv => arg 4; whnf); repeat (refine ⟨rfl, ?_⟩; conv => arg 4; whnf)
        refine ⟨fun h' => absurd h' (by simp), fun _ => ?_⟩
        (conv => arg 4; whnf); repeat (refine ⟨rfl, ?_⟩; conv => arg 4; whnf)
        exact ⟨⟨j + 1, by omega⟩, by show l.length - (j + 1) < l.length - j; omega, WkG.of rfl rfl ⟨Le.of_eq (succ_i64 (by omega)), Le.refl _ _, Le.refl _ _, Le.refl _ _, Le.refl _ _, Le.refl _ _, trivial⟩ trivial ⟨rfl, Cl.blsV _ _, Cl.bs _ _, Cl.blsV _ _, Cl.bs _ _, rfl, trivial⟩ trivial⟩
      · rw [bls_length] at h3
        rw [← Bool.not_eq_true] at h3; simp only [Bool.cond_true_left, Bool.cond_false_right, Bool.or_eq_true, Bool.and_eq_true, Bool.not_eq_true', decide_eq_true_eq, beq_iff_eq, bne_iff_ne, u8s_length, gt_iff_lt, ge_iff_le] at h3
        conv => arg 4; whnf
        refine fin_exit ?_
        show holds _ _ _ _
        conv => arg 4; whnf
        refine ⟨sizeOk 1 rfl (by simp [u8s_length]; omega), ?_⟩
        (conv => arg 4; whnf); repeat (refine ⟨rfl, ?_⟩; conv => arg 4; whnf)
        refine ⟨⟨rfl, sizeOk 1 rfl (by simp [u8s_length]; omega)⟩, ?_⟩
        (conv => arg 4; whnf); repeat (refine ⟨rfl, ?_⟩; conv => arg 4; whnf)
        have hap : [] ++ u8s (joinB l) ++ u8s t = u8s (joinB l ++ t) := by simp [u8s_append]
        rw [hap]
        refine holds_args (args' := [bs (joinB l ++ t), .int .i64 10000]) ⟨Le.none, Le.refl _ _, trivial⟩ ?_
        refine call0 (frWalk (p := joinB l ++ t) (most := 10000) (by rw [List.length_append]; omega) (by decide)) (by (repeat' (first | with_reducible assumption | exact ClL.nil | exact Cl.int _ _ | exact Cl.bool _ | exact Cl.bl _ | exact Cl.bs _ | exact Cl.str _ | exact Cl.nils | exact Cl.nilp | exact Cl.rec _ | exact Cl.bat _ | exact Cl.recsV _ | exact Cl.strsV _ | exact Cl.intsV _ | exact Cl.req _ | exact Cl.rsp _ | exact Cl.reqA _ | exact Cl.rspA _ | exact Cl.batsV _ | exact Cl.getB _ | exact Cl.encA _ | exact Cl.firstA _ | refine ClL.cons ?_ ?_ | refine Cl.tup ?_ | refine Cl.agg ?_ | exact ClO.RO _ _))) (Cl.blsV _) ?_
        rw [← hy, List.take_of_length_le (by omega)]
        (conv => arg 4; whnf); repeat (refine ⟨rfl, ?_⟩; conv => arg 4; whnf)
        refine holds_args (args' := [bs (joinB l ++ t)]) ⟨Le.none, trivial⟩ ?_
        refine call0 (refFrames (p := joinB l ++ t) (by rw [List.length_append]; omega)) (by (repeat' (first | with_reducible assumption | exact ClL.nil | exact Cl.int _ _ | exact Cl.bool _ | exact Cl.bl _ | exact Cl.bs _ | exact Cl.str _ | exact Cl.nils | exact Cl.nilp | exact Cl.rec _ | exact Cl.bat _ | exact Cl.recsV _ | exact Cl.strsV _ | exact Cl.intsV _ | exact Cl.req _ | exact Cl.rsp _ | exact Cl.reqA _ | exact Cl.rspA _ | exact Cl.batsV _ | exact Cl.getB _ | exact Cl.encA _ | exact Cl.firstA _ | refine ClL.cons ?_ ?_ | refine Cl.tup ?_ | refine Cl.agg ?_ | exact ClO.RO _ _))) (Cl.blsV _) ?_
        rw [← hy]
        (conv => arg 4; whnf); repeat (refine ⟨rfl, ?_⟩; conv => arg 4; whnf)
        refine ⟨fun h' => absurd h' (by simp), fun _ => ?_⟩
        (conv => arg 4; whnf); repeat (refine ⟨rfl, ?_⟩; conv => arg 4; whnf)
        refine holds_args (args' := [bs (joinB l ++ t), .int .i64 k]) ⟨Le.none, Le.refl _ _, trivial⟩ ?_
        refine call0 (frWalk (p := joinB l ++ t) (most := k) (by rw [List.length_append]; omega) (by omega)) (by (repeat' (first | with_reducible assumption | exact ClL.nil | exact Cl.int _ _ | exact Cl.bool _ | exact Cl.bl _ | exact Cl.bs _ | exact Cl.str _ | exact Cl.nils | exact Cl.nilp | exact Cl.rec _ | exact Cl.bat _ | exact Cl.recsV _ | exact Cl.strsV _ | exact Cl.intsV _ | exact Cl.req _ | exact Cl.rsp _ | exact Cl.reqA _ | exact Cl.rspA _ | exact Cl.batsV _ | exact Cl.getB _ | exact Cl.encA _ | exact Cl.firstA _ | refine ClL.cons ?_ ?_ | refine Cl.tup ?_ | refine Cl.agg ?_ | exact ClO.RO _ _))) (Cl.blsV _) ?_
        rw [← hy]
        (conv => arg 4; whnf); repeat (refine ⟨rfl, ?_⟩; conv => arg 4; whnf)
        have hmn : ((((blsL (y.take k)).length : Nat) : Int) != if ((blsL y).length : Int) < k then ((blsL y).length : Int) else k) = false := by
          rw [bls_length, bls_length, List.length_take]
          simp only [bne_eq_false_iff_eq]
          split <;> omega
        refine ⟨fun h' => absurd (hmn.symm.trans h') (by decide), fun _ => ?_⟩
        conv => arg 4; whnf
        refine tri_loopG (ι := CmI y) (fun a => ⟨[(16, .int .i64 a.i), (15, blsV y), (14, blsV y)], [], 1, 121⟩) (fun a => y.length - a.i) ⟨0, Nat.zero_le _⟩ (WkG.of rfl rfl ⟨Le.refl _ _, Le.refl _ _, Le.refl _ _, trivial⟩ trivial ⟨rfl, Cl.blsV _ _, Cl.blsV _ _, trivial⟩ trivial) ?_
        rintro ⟨j, hj2⟩
        dsimp only
        conv => arg 4; whnf
        refine ⟨fun h3 => ?_, fun h3 => ?_⟩
        · rw [bls_length] at h3
          simp only [Bool.cond_true_left, Bool.cond_false_right, Bool.or_eq_true, Bool.and_eq_true, Bool.not_eq_true', decide_eq_true_eq, beq_iff_eq, bne_iff_ne, u8s_length, Bool.not_eq_true, gt_iff_lt, ge_iff_le] at h3
          have h3 : j < y.length := by omega
          obtain ⟨x, hx⟩ : ∃ x, y[j]? = some x := ⟨_, List.getElem?_eq_getElem h3⟩
          (conv => arg 4; whnf); repeat (refine ⟨rfl, ?_⟩; conv => arg 4; whnf)
          refine ⟨_, ⟨by omega, bls_get hx⟩, ?_⟩
          (conv => arg 4; whnf); repeat (refine ⟨rfl, ?_⟩; conv => arg 4; whnf)
          refine ⟨x, rfl, ?_⟩
          (conv => arg 4; whnf); repeat (refine ⟨rfl, ?_⟩; conv => arg 4; whnf)
          refine ⟨_, ⟨by omega, bls_get hx⟩, ?_⟩
          (conv => arg 4; whnf); repeat (refine ⟨rfl, ?_⟩; conv => arg 4; whnf)
          refine ⟨x, rfl, ?_⟩
          (conv => arg 4; whnf); repeat (refine ⟨rfl, ?_⟩; conv => arg 4; whnf)
          refine ⟨fun h' => absurd h' (by simp), fun _ => ?_⟩
          (conv => arg 4; whnf); repeat (refine ⟨rfl, ?_⟩; conv => arg 4; whnf)
          exact ⟨⟨j + 1, by omega⟩, by show y.length - (j + 1) < y.length - j; omega, WkG.of rfl rfl ⟨Le.of_eq (succ_i64 (by omega)), Le.refl _ _, Le.refl _ _, trivial⟩ trivial ⟨rfl, Cl.blsV _ _, Cl.blsV _ _, trivial⟩ trivial⟩
        · rw [bls_length] at h3
          rw [← Bool.not_eq_true] at h3; simp only [Bool.cond_true_left, Bool.cond_false_right, Bool.or_eq_true, Bool.and_eq_true, Bool.not_eq_true', decide_eq_true_eq, beq_iff_eq, bne_iff_ne, u8s_length, gt_iff_lt, ge_iff_le] at h3
          conv => arg 4; whnf
          refine fin_exit ?_
          show holds _ _ _ _
          conv => arg 4; whnf
          refine call0 awake20 (by (repeat' (first | with_reducible assumption | exact ClL.nil | exact Cl.int _ _ | exact Cl.bool _ | exact Cl.bl _ | exact Cl.bs _ | exact Cl.str _ | exact Cl.nils | exact Cl.nilp | exact Cl.rec _ | exact Cl.bat _ | exact Cl.recsV _ | exact Cl.strsV _ | exact Cl.intsV _ | exact Cl.req _ | exact Cl.rsp _ | exact Cl.reqA _ | exact Cl.rspA _ | exact Cl.batsV _ | exact Cl.getB _ | exact Cl.encA _ | exact Cl.firstA _ | refine ClL.cons ?_ ?_ | refine Cl.tup ?_ | refine Cl.agg ?_ | exact ClO.RO _ _))) (by (repeat' (first | with_reducible assumption | exact ClL.nil | exact Cl.int _ _ | exact Cl.bool _ | exact Cl.bl _ | exact Cl.bs _ | exact Cl.str _ | exact Cl.nils | exact Cl.nilp | exact Cl.rec _ | exact Cl.bat _ | exact Cl.recsV _ | exact Cl.strsV _ | exact Cl.intsV _ | exact Cl.req _ | exact Cl.rsp _ | exact Cl.reqA _ | exact Cl.rspA _ | exact Cl.batsV _ | exact Cl.getB _ | exact Cl.encA _ | exact Cl.firstA _ | refine ClL.cons ?_ ?_ | refine Cl.tup ?_ | refine Cl.agg ?_ | exact ClO.RO _ _))) ?_
          (conv => arg 4; whnf); repeat (refine ⟨rfl, ?_⟩; conv => arg 4; whnf)
          exact .inl rfl
end Go.Proofs.Ytbehegpahiefaaa.Pr

namespace Go.Proofs.Ytbehegpahiefaaa.Pr
set_option maxRecDepth 100000
set_option maxHeartbeats 80000000
open Go.Sym

theorem ap {a b c d : List UInt8} (h : (a ++ b) ++ c = d) : a ++ (b ++ c) = d := by rw [← List.append_assoc]; exact h

theorem good_pre {a b : Req} {p t : List UInt8} (ha : a.good p) (hb : b.good (p ++ t)) : t = [] := by
  obtain ⟨al, a1, a2, a3⟩ := good_six ha
  obtain ⟨-, b1, b2, b3⟩ := good_six hb
  obtain ⟨⟨la1, la2, la3, la4, la5, la6⟩, lan⟩ := req_lens ha.c
  obtain ⟨⟨lb1, lb2, lb3, lb4, lb5, lb6⟩, lbn⟩ := req_lens hb.c
  obtain ⟨-, -, oa3, oa4, oa5, oa6, oa7⟩ := ha.o
  obtain ⟨-, -, ob3, ob4, ob5, ob6, ob7⟩ := hb.o
  have e1 : a.u1 ++ t = b.u1 := by rw [← a3, ← b3, List.drop_append_of_le_length al]
  obtain ⟨-, e2⟩ := len_inj (a := a.client) (b := b.client) (s := a.u2 ++ t) (t := b.u2) (ap e1) (by omega) (by omega)
  obtain ⟨-, e3⟩ := len_inj (a := a.topic) (b := b.topic) (s := a.u3 ++ t) (t := b.u3) (ap e2) (by omega) (by omega)
  obtain ⟨-, e4⟩ := num_inj (n := a.part) (m := b.part) (s := a.u4 ++ t) (t := b.u4) (ap e3) oa3 ob3
  obtain ⟨-, e5⟩ := num_inj (n := a.off) (m := b.off) (s := a.u5 ++ t) (t := b.u5) (ap e4) oa4 ob4
  obtain ⟨-, e6⟩ := num_inj (n := a.time) (m := b.time) (s := a.u6 ++ t) (t := b.u6) (ap e5) oa5 ob5
  obtain ⟨-, e7⟩ := num_inj (n := a.max) (m := b.max) (s := a.u7 ++ t) (t := b.u7) (ap e6) oa6 ob6
  obtain ⟨-, e8⟩ := len_inj (a := a.group) (b := b.group) (s := a.u8 ++ t) (t := b.u8) (ap e7) (by omega) (by omega)
  obtain ⟨-, e9⟩ := len_inj (a := a.member) (b := b.member) (s := a.u9 ++ t) (t := b.u9) (ap e8) (by omega) (by omega)
  obtain ⟨-, e10⟩ := num_inj (n := a.gen) (m := b.gen) (s := a.u10 ++ t) (t := b.u10) (ap e9) oa7 ob7
  obtain ⟨f10, e11⟩ := num_inj (n := (a.names.length : Int)) (m := (b.names.length : Int)) (s := a.u11 ++ t) (t := b.u11) (ap e10) (by unfold I64; omega) (by unfold I64; omega)
  obtain ⟨-, e12⟩ := txts_inj (t := lenB a.data ++ t) (t' := lenB b.data) (by omega) lan lbn (ap e11)
  obtain ⟨-, e13⟩ := len_inj (a := a.data) (b := b.data) (s := t) (t := []) (by rw [List.append_nil]; exact e12) (by omega) (by omega)
  exact e13

theorem good_cut {a b : Req} {p : List UInt8} {k : Nat} (ha : a.good p) (hk : k ≤ p.length) (hb : b.good (p.take k)) : k = p.length := by
  have := good_pre (t := p.drop k) hb (by rw [List.take_append_drop]; exact ha)
  have := congrArg List.length this
  rw [List.length_drop, List.length_nil] at this
  omega
theorem good_more {a b : Req} {p : List UInt8} {x : UInt8} (ha : a.good p) (hb : b.good (p ++ [x])) : False := by
  cases good_pre ha hb
end Go.Proofs.Ytbehegpahiefaaa.Pr

namespace Go.Proofs.Ytbehegpahiefaaa.Pr
set_option maxRecDepth 100000
set_option maxHeartbeats 80000000
open Go.Sym

structure TxJ (b : List UInt8) (e0 : Int) (most : Nat) (n : Int) where
  i : Nat
  s : Nat
  r : List UInt8
  e : Int
  l : List (List UInt8)
  hi : (i : Int) ≤ n
  hl : l.length = i
  hr : r.length ≤ b.length
  h : ∀ (ns : List (List UInt8)) t, b = put ns.length ++ (textsB ns ++ t) ∧ e0 = 0 → (∀ s ∈ ns, ¬ Long s) → ns.length ≤ most → n = ns.length ∧ l = ns.take i ∧ r = textsB (ns.drop i) ++ t ∧ e = 0

theorem progTexts {b : List UInt8} {e : Int} {most : Nat} (hb : b.length ≤ 100000000000) (hm : most ≤ 1000) : CallOK Try.prog 77 [.ptr 0 0, .int .i64 most] (RH b e) 1
    (fun a h m => ∃ x : TxX, (x.r.length ≤ b.length ∧ x.l.length ≤ most ∧ ∀ (ns : List (List UInt8)) t, b = put ns.length ++ (textsB ns ++ t) ∧ e = 0 → (∀ s ∈ ns, ¬ Long s) → ns.length ≤ most → x.l = ns ∧ x.r = t ∧ x.e = 0) ∧ Out (strsV x.l) [(0, RO x.r x.e)] 1 a h m) := by
  refine CallOK.fitE (by decide) ?_
  refine callOK Try.call77 Try.func77 Try.ntmps77 rfl ?_
  conv => arg 4; whnf
  refine call1E 0 (rNumE (b := b) (e := e) (by omega)) rfl rfl (ClO.RO _ _) (fun x => ClO.RO _ _) rfl (fun x => Cl.int _ _) fun x1 h1 => ?_
  have l1 := h1.2.length_le
  have g1 : ∀ (ns : List (List UInt8)) t, b = put ns.length ++ (textsB ns ++ t) ∧ e = 0 → ns.length ≤ most → x1.v = ns.length ∧ x1.r = textsB ns ++ t ∧ x1.e = 0 := fun ns t hh hn => step_num h1.1 hh (by unfold I64; omega)
  (conv => arg 4; whnf); repeat (refine ⟨rfl, ?_⟩; conv => arg 4; whnf)
  refine ⟨fun h => ?_, fun h => ?_⟩
  · simp only [Bool.cond_true_left, Bool.cond_false_right, Bool.or_eq_true, Bool.and_eq_true, Bool.not_eq_true', decide_eq_true_eq, beq_iff_eq, bne_iff_ne, u8s_length, Bool.not_eq_true, gt_iff_lt, ge_iff_le] at h
    (conv => arg 4; whnf); repeat (refine ⟨rfl, ?_⟩; conv => arg 4; whnf)
    refine call1E 0 (rBytesE (b := x1.r) (e := x1.e) (most := -1) (by omega)) rfl rfl (ClO.RO _ _) (fun x => ClO.RO _ _) rfl (fun x => Cl.bs _) fun z hz => ?_
    have lz := hz.2.1.length_le
    (conv => arg 4; whnf); repeat (refine ⟨rfl, ?_⟩; conv => arg 4; whnf)
    refine ⟨⟨[], z.r, z.e⟩, ⟨by simp only; omega, Nat.zero_le _, fun ns t hh hns hnm => by have := g1 ns t hh hnm; omega⟩, by decide, Le.nils, ⟨⟨_, rfl, LeO.refl _ _⟩, trivial⟩, (Cl.strsV _ : Cl _) _, ⟨⟨by decide, ClO.RO _ _ _⟩, trivial⟩⟩
  · rw [← Bool.not_eq_true] at h; simp only [Bool.cond_true_left, Bool.cond_false_right, Bool.or_eq_true, Bool.and_eq_true, Bool.not_eq_true', decide_eq_true_eq, beq_iff_eq, bne_iff_ne, u8s_length, gt_iff_lt, ge_iff_le] at h
    have hv : 0 ≤ x1.v ∧ x1.v ≤ most := by omega
    (conv => arg 4; whnf); repeat (refine ⟨rfl, ?_⟩; conv => arg 4; whnf)
    refine tri_loopG (ι := TxJ b e most x1.v) (fun a => ⟨[(18, .int .i64 a.i), (17, .int .i64 x1.v), (4, .sl (.tok 1 a.s) 0 (strs a.l)), (0, .ptr 0 0)], [(1, .tip a.s), (0, RO a.r a.e)], 2, 27⟩) (fun a => (x1.v - a.i).toNat) ⟨0, 0, x1.r, x1.e, [], by omega, rfl, l1, fun ns t hh _ hn => by obtain ⟨q1, q2, q3⟩ := g1 ns t hh hn; exact ⟨q1, rfl, q2, q3⟩⟩ (WkG.tok rfl rfl ⟨Le.refl _ _, Le.refl _ _, Le.nilsTok rfl, Le.refl _ _, trivial⟩ ⟨⟨_, rfl, rfl⟩, ⟨_, rfl, LeO.refl _ _⟩, trivial⟩ ⟨rfl, rfl, rfl, rfl, trivial⟩ ⟨⟨by decide, rfl⟩, ⟨by decide, ClO.RO _ _ _⟩, trivial⟩) ?_
    rintro ⟨i, s, r, f, l, hi, hll, hrl, hg⟩
    dsimp only
    conv => arg 4; whnf
    refine ⟨fun hc => ?_, fun hc => ?_⟩
    · simp only [Bool.cond_true_left, Bool.cond_false_right, Bool.or_eq_true, Bool.and_eq_true, Bool.not_eq_true', decide_eq_true_eq, beq_iff_eq, bne_iff_ne, u8s_length, Bool.not_eq_true, gt_iff_lt, ge_iff_le] at hc
      (conv => arg 4; whnf); repeat (refine ⟨rfl, ?_⟩; conv => arg 4; whnf)
      refine call1E 0 (rTextE (b := r) (e := f) (most := 100) (by omega)) rfl rfl (ClO.RO _ _) (fun x => ClO.RO _ _) rfl (fun x => by (repeat' (first | with_reducible assumption | exact ClL.nil | exact Cl.int _ _ | exact Cl.bool _ | exact Cl.bl _ | exact Cl.bs _ | exact Cl.str _ | exact Cl.nils | exact Cl.nilp | exact Cl.rec _ | exact Cl.bat _ | exact Cl.recsV _ | exact Cl.strsV _ | exact Cl.intsV _ | exact Cl.req _ | exact Cl.rsp _ | exact Cl.reqA _ | exact Cl.rspA _ | exact Cl.batsV _ | exact Cl.getB _ | exact Cl.encA _ | exact Cl.firstA _ | refine ClL.cons ?_ ?_ | refine Cl.tup ?_ | refine Cl.agg ?_ | exact ClO.RO _ _))) fun z hz => ?_
      have lz := hz.2.1.length_le
      (conv => arg 4; whnf); repeat (refine ⟨rfl, ?_⟩; conv => arg 4; whnf)
      refine ⟨⟨rfl, sizeOk 16 rfl ?_⟩, ?_⟩
      · rw [List.length_append, strs_length, hll]; simp only [List.length_cons, List.length_nil]; omega
      (conv => arg 4; whnf); repeat (refine ⟨rfl, ?_⟩; conv => arg 4; whnf)
      refine ⟨⟨i + 1, s + 1, z.r, z.e, l ++ [z.v], by omega, by rw [List.length_append, hll]; rfl, by omega, fun ns t hh hns hnm => ?_⟩, by show (x1.v - ((i + 1 : Nat) : Int)).toNat < (x1.v - (i : Int)).toNat; omega, WkG.of rfl rfl ⟨Le.of_eq (succ_i64 (by omega)), Le.refl _ _, Le.of_eq (congrArg (AV.sl _ 0) (by simp [strs])), Le.refl _ _, trivial⟩ ⟨⟨_, rfl, LeO.refl _ _⟩, ⟨_, rfl, LeO.refl _ _⟩, trivial⟩ ⟨rfl, rfl, by simp only [ren, ClL.strs _ _, renP, cut_lt (show 1 < 2 by decide)], rfl, trivial⟩ ⟨⟨by decide, rfl⟩, ⟨by decide, ClO.RO _ _ _⟩, trivial⟩⟩
      obtain ⟨q0, q1, q2, q3⟩ := hg ns t hh hns hnm
      obtain ⟨w, hw⟩ : ∃ w, ns[i]? = some w := ⟨_, List.getElem?_eq_getElem (by omega)⟩
      have hwl := hns w (List.mem_of_getElem? hw)
      unfold Long at hwl
      obtain ⟨z1, z2, z3⟩ := step_bytes (s := w) (t := textsB (ns.drop (i + 1)) ++ t) hz.1 ⟨by rw [q2, textsB_drop hw, List.append_assoc], q3⟩ (by omega) (by omega)
      exact ⟨q0, by rw [q1, z1, List.take_add_one, hw]; rfl, z2, z3⟩
    · rw [← Bool.not_eq_true] at hc; simp only [Bool.cond_true_left, Bool.cond_false_right, Bool.or_eq_true, Bool.and_eq_true, Bool.not_eq_true', decide_eq_true_eq, beq_iff_eq, bne_iff_ne, u8s_length, gt_iff_lt, ge_iff_le] at hc
      conv => arg 4; whnf
      refine fin_exit ?_
      show holds _ _ _ _
      conv => arg 4; whnf
      refine ⟨⟨l, r, f⟩, ⟨hrl, by simp only; omega, fun ns t hh hns hnm => ?_⟩, by decide, Le.none, ⟨⟨_, rfl, LeO.refl _ _⟩, trivial⟩, (Cl.strsV _ : Cl _) _, ⟨⟨by decide, ClO.RO _ _ _⟩, trivial⟩⟩
      obtain ⟨q0, q1, q2, q3⟩ := hg ns t hh hns hnm
      have hi' : i = ns.length := by omega
      rw [hi', List.take_length] at q1
      rw [hi', List.drop_length] at q2
      exact ⟨q1, by rw [q2]; rfl, q3⟩
end Go.Proofs.Ytbehegpahiefaaa.Pr
