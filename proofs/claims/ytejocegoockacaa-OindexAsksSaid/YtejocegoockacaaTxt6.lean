/-
  The entries that bytes are, by the program.
-/
import Derived.Test.YtejocegoockacaaTxt5
import Derived.Test.YtejocegoockacaaTxt4
set_option linter.unusedVariables false
set_option linter.unusedSimpArgs false
namespace Go.Proofs.Ytejocegoockacaa.Ix
set_option maxRecDepth 100000
set_option maxHeartbeats 80000000
open Go.Sym

theorem tmod16 (n : Nat) : (n : Int).tmod 16 = 0 ↔ n % 16 = 0 := by
  rw [Int.tmod_eq_emod_of_nonneg (by omega)]
  omega

structure DcI (tm : Bool) (p : List UInt8) where
  k : Nat
  s : Nat
  m : Nat
  r : List UInt8
  e : Int
  l : List (Int × Int)
  hk : 0 ≤ k
  hr : r.length ≤ 100000000000000
  hint : Ints l
  hll : l.length ≤ p.length
  h : (e = 0 ∧ l = entN p k ∧ r = p.drop (16 * k) ∧ 16 * k ≤ p.length ∧ m = p.length - 16 * k + 1) ∨ (e ≠ 0 ∧ ¬ DecE tm p ∧ m = 0)

theorem ixDec {p : List UInt8} (hl : p.length ≤ 1000000) : CallOK Try.prog 72 [bs p] [] 0 (Out (decA false p) [] 0) := by
  refine CallOK.fit (by decide) ?_
  refine callOK Try.call72 Try.func72 Try.ntmps72 rfl ?_
  conv => arg 4; whnf
  refine callNew (newReader (b := p) (by omega)) (ClL.cons (Cl.bs _) ClL.nil) (ClO.RO _ _) ?_
  (conv => arg 4; whnf); repeat (refine ⟨rfl, ?_⟩; conv => arg 4; whnf)
  refine tri_loopG (ι := DcI false p) (fun a => ⟨[(4, .ptr 0 0), (2, .sl (.tok 1 a.s) 2 (prsL a.l)), (0, bs p)], [(1, .tip a.s), (0, RO a.r a.e)], 2, 39⟩) (fun a => a.m) ⟨0, 0, p.length + 1, p, 0, [], Nat.zero_le _, by omega, fun x hx => (by cases hx), Nat.zero_le _, .inl ⟨rfl, rfl, rfl, Nat.zero_le _, rfl⟩⟩ (WkG.tok rfl rfl ⟨Le.refl _ _, Le.nilsTok rfl, Le.refl _ _, trivial⟩ ⟨⟨_, rfl, rfl⟩, ⟨_, rfl, LeO.refl _ _⟩, trivial⟩ ⟨rfl, rfl, Cl.bs _ _, trivial⟩ ⟨⟨by decide, rfl⟩, ⟨by decide, ClO.RO _ _ _⟩, trivial⟩) ?_
  rintro ⟨k, s, m, r, e, l, hk, hrl, hint, hlp, hh⟩
  dsimp only
  conv => arg 4; whnf
  refine call1 0 rLeft rfl rfl (ClO.RO _ _) (ClO.RO _ _) rfl (Cl.int _ _) ?_
  (conv => arg 4; whnf); repeat (refine ⟨rfl, ?_⟩; conv => arg 4; whnf)
  refine ⟨fun h => ?_, fun h => ?_⟩
  · have h : e = 0 ∧ r ≠ [] := by
      simp only [gt_iff_lt, decide_eq_true_eq] at h
      split at h
      · refine ⟨by assumption, ?_⟩
        rintro rfl
        simp at h
      · omega
    obtain ⟨rfl, hr0⟩ := h
    have hh := hh.resolve_right fun q => q.1 rfl
    obtain ⟨-, hl1, hr, hk1, hm⟩ := hh
    have hlt : 16 * k < p.length := by
      have := List.length_pos_iff.2 hr0
      rw [hr, List.length_drop] at this
      omega
    have hll : l.length ≤ p.length := by rw [hl1, entN_len]; omega
    have hrl' : r.length ≤ p.length := by rw [hr, List.length_drop]; omega
    (conv => arg 4; whnf); repeat (refine ⟨rfl, ?_⟩; conv => arg 4; whnf)
    refine call1E 0 (rFixedE (b := r) (e := 0) (size := 8) (by unfold I64; omega) (by omega)) rfl rfl (ClO.RO _ _) (fun x => ClO.RO _ _) rfl (fun x => Cl.int _ _) fun x1 h1 => ?_
    have l1 := h1.2.length_le
    (conv => arg 4; whnf); repeat (refine ⟨rfl, ?_⟩; conv => arg 4; whnf)
    refine call1E 0 (rFixedE (b := x1.r) (e := x1.e) (size := 8) (by unfold I64; omega) (by omega)) rfl rfl (ClO.RO _ _) (fun x => ClO.RO _ _) rfl (fun x => Cl.int _ _) fun x2 h2 => ?_
    have l2 := h2.2.length_le
    (conv => arg 4; whnf); repeat (refine ⟨rfl, ?_⟩; conv => arg 4; whnf)
    refine ⟨⟨rfl, sizeOk 16 rfl (by rw [List.length_append, prs_length]; simp only [List.length_cons, List.length_nil]; omega)⟩, ?_⟩
    (conv => arg 4; whnf); repeat (refine ⟨rfl, ?_⟩; conv => arg 4; whnf)
    obtain ⟨⟨i1, i2⟩, hs⟩ := dec_step (tm := false) hr hlt h1.1 h2.1
    have hi2 : Ints (l ++ [(x1.v, x2.v)]) := fun x hx => by
      rcases List.mem_append.1 hx with hx | hx
      · exact hint x hx
      · rw [List.mem_singleton.1 hx]; exact ⟨i1, i2⟩
    have hl2 : (l ++ [(x1.v, x2.v)]).length ≤ p.length := by rw [List.length_append, List.length_singleton, hl1, entN_len]; omega
    rcases hs with ⟨q1, q2, q3, q4⟩ | ⟨q1, q2⟩
    · exact ⟨⟨k + 1, s + 1, p.length - 16 * (k + 1) + 1, x2.r, x2.e, l ++ [(x1.v, x2.v)], Nat.zero_le _, by omega, hi2, hl2, .inl ⟨q1, by rw [q2, hl1, entN_succ], q3, q4, rfl⟩⟩, by show p.length - 16 * (k + 1) + 1 < m; omega, WkG.of rfl rfl ⟨Le.refl _ _, Le.of_eq (congrArg (AV.sl (.tok 1 (s + 1)) 2) (prs_snoc l (x1.v, x2.v))), Le.refl _ _, trivial⟩ ⟨⟨_, rfl, LeO.refl _ _⟩, ⟨_, rfl, LeO.refl _ _⟩, trivial⟩ ⟨rfl, cut_sl (ClL.prs _) rfl, Cl.bs _ _, trivial⟩ ⟨⟨by decide, rfl⟩, ⟨by decide, ClO.RO _ _ _⟩, trivial⟩⟩
    · exact ⟨⟨k + 1, s + 1, 0, x2.r, x2.e, l ++ [(x1.v, x2.v)], Nat.zero_le _, by omega, hi2, hl2, .inr ⟨q1, q2, rfl⟩⟩, by show 0 < m; omega, WkG.of rfl rfl ⟨Le.refl _ _, Le.of_eq (congrArg (AV.sl (.tok 1 (s + 1)) 2) (prs_snoc l (x1.v, x2.v))), Le.refl _ _, trivial⟩ ⟨⟨_, rfl, LeO.refl _ _⟩, ⟨_, rfl, LeO.refl _ _⟩, trivial⟩ ⟨rfl, cut_sl (ClL.prs _) rfl, Cl.bs _ _, trivial⟩ ⟨⟨by decide, rfl⟩, ⟨by decide, ClO.RO _ _ _⟩, trivial⟩⟩
  · skip
    have h : e = 0 → r = [] := fun he => by
      rw [if_pos he] at h
      simp at h
      exact h
    conv => arg 4; whnf
    refine fin_exit ?_
    show holds _ _ _ _
    conv => arg 4; whnf
    refine holds_args (args' := [prsV l]) ⟨Le.none, trivial⟩ ?_
    refine call0 (ixEnc (by omega) hint) (ClL.cons (Cl.prsV _) ClL.nil) (Cl.entA _ _) ?_
    (conv => arg 4; whnf); repeat (refine ⟨rfl, ?_⟩; conv => arg 4; whnf)
    have hent : e = 0 → l = entD p ∧ p.length % 16 = 0 ∧ 16 * k = p.length := fun he => by
      rcases hh with ⟨-, h1, h2, h3, -⟩ | ⟨h1, -⟩
      · have h4 := h he
        rw [h2] at h4
        have h5 := congrArg List.length h4
        rw [List.length_drop, List.length_nil] at h5
        have h6 : k = p.length / 16 := by omega
        exact ⟨by rw [h1, entD, h6], by omega, by omega⟩
      · exact absurd he h1
    have hbad : e ≠ 0 → ¬ DecE false p := fun he => by
      rcases hh with ⟨h1, -⟩ | ⟨-, h1, -⟩
      · exact absurd h1 he
      · exact h1
    refine ⟨fun hc => ?_, fun hc => ?_⟩
    · have hc : ¬ OkE false (st0 false) l := fun ho => by
        rw [entE_yes ho] at hc
        cases hc
      have hn : ¬ DecE false p := fun hd => by
        by_cases he : e = 0
        · rw [(hent he).1] at hc; exact hc hd.2
        · exact hbad he hd
      (conv => arg 4; whnf); repeat (refine ⟨rfl, ?_⟩; conv => arg 4; whnf)
      rw [decA_no hn]
      exact ⟨by decide, by (repeat' (first | with_reducible exact Le.refl _ _ | exact Le.bl | exact Le.lb | exact Le.nils | exact Le.nilsFull | exact Le.none | exact LeL.nil _ | refine LeL.cons ?_ ?_ | refine Le.tup ?_ | refine Le.agg ?_ | exact Le.refl _ _ | exact LeL.refl _ _)), trivial, (by (repeat' (first | with_reducible assumption | exact ClL.nil | exact Cl.int _ _ | exact Cl.bool _ | exact Cl.bl _ | exact Cl.bs _ | exact Cl.str _ | exact Cl.nils | exact Cl.nilp | exact Cl.rec _ | exact Cl.bat _ | exact Cl.recsV _ | exact Cl.strsV _ | exact Cl.intsV _ | exact Cl.req _ | exact Cl.rsp _ | exact Cl.reqA _ | exact Cl.rspA _ | exact Cl.batsV _ | exact Cl.prsV _ | exact Cl.atsV _ | exact Cl.entA _ _ | exact Cl.foundA _ | exact Cl.getB _ | exact Cl.encA _ | exact Cl.firstA _ | refine ClL.cons ?_ ?_ | refine Cl.tup ?_ | refine Cl.agg ?_ | exact ClO.RO _ _)) : Cl _) _, trivial⟩
    · have hc : OkE false (st0 false) l := by
        by_cases ho : OkE false (st0 false) l
        · exact ho
        · rw [entE_no ho] at hc; cases hc
      (conv => arg 4; whnf); repeat (refine ⟨rfl, ?_⟩; conv => arg 4; whnf)
      refine call1 0 rErrE rfl rfl (ClO.RO _ _) (ClO.RO _ _) rfl (Cl.int _ _) ?_
      (conv => arg 4; whnf); repeat (refine ⟨rfl, ?_⟩; conv => arg 4; whnf)
      refine ⟨ctxP_of (by decide), ?_⟩
      (conv => arg 4; whnf); repeat (refine ⟨rfl, ?_⟩; conv => arg 4; whnf)
      refine ⟨fun hq => ?_, fun hq => ?_⟩
      · simp only [Bool.cond_true_left, Bool.cond_false_right, Bool.or_eq_true, Bool.and_eq_true, Bool.not_eq_true', decide_eq_true_eq, beq_iff_eq, bne_iff_ne, u8s_length, Bool.not_eq_true, gt_iff_lt, ge_iff_le] at hq
        have hn : ¬ DecE false p := fun hd => by
          rcases hq with hq | hq
          · exact hbad hq hd
          · exact hq ((tmod16 _).2 hd.1)
        (conv => arg 4; whnf); repeat (refine ⟨rfl, ?_⟩; conv => arg 4; whnf)
        rw [decA_no hn]
        exact ⟨by decide, by (repeat' (first | with_reducible exact Le.refl _ _ | exact Le.bl | exact Le.lb | exact Le.nils | exact Le.nilsFull | exact Le.none | exact LeL.nil _ | refine LeL.cons ?_ ?_ | refine Le.tup ?_ | refine Le.agg ?_ | exact Le.refl _ _ | exact LeL.refl _ _)), trivial, (by (repeat' (first | with_reducible assumption | exact ClL.nil | exact Cl.int _ _ | exact Cl.bool _ | exact Cl.bl _ | exact Cl.bs _ | exact Cl.str _ | exact Cl.nils | exact Cl.nilp | exact Cl.rec _ | exact Cl.bat _ | exact Cl.recsV _ | exact Cl.strsV _ | exact Cl.intsV _ | exact Cl.req _ | exact Cl.rsp _ | exact Cl.reqA _ | exact Cl.rspA _ | exact Cl.batsV _ | exact Cl.prsV _ | exact Cl.atsV _ | exact Cl.entA _ _ | exact Cl.foundA _ | exact Cl.getB _ | exact Cl.encA _ | exact Cl.firstA _ | refine ClL.cons ?_ ?_ | refine Cl.tup ?_ | refine Cl.agg ?_ | exact ClO.RO _ _)) : Cl _) _, trivial⟩
      · rw [← Bool.not_eq_true] at hq; simp only [Bool.cond_true_left, Bool.cond_false_right, Bool.or_eq_true, Bool.and_eq_true, Bool.not_eq_true', decide_eq_true_eq, beq_iff_eq, bne_iff_ne, u8s_length, gt_iff_lt, ge_iff_le] at hq
        have he : e = 0 := Decidable.byContradiction fun h => hq (.inl h)
        obtain ⟨q1, q2, -⟩ := hent he
        have hd : DecE false p := ⟨q2, by rw [← q1]; exact hc⟩
        (conv => arg 4; whnf); repeat (refine ⟨rfl, ?_⟩; conv => arg 4; whnf)
        rw [decA_yes hd, ← q1]
        exact ⟨by decide, by (repeat' (first | with_reducible exact Le.refl _ _ | exact Le.bl | exact Le.lb | exact Le.nils | exact Le.nilsFull | exact Le.none | exact LeL.nil _ | refine LeL.cons ?_ ?_ | refine Le.tup ?_ | refine Le.agg ?_ | exact Le.refl _ _ | exact LeL.refl _ _)), trivial, Cl.tup (ClL.cons (Cl.prsV _) (ClL.cons (Cl.int _ _) ClL.nil)) _, trivial⟩
theorem tiDec {p : List UInt8} (hl : p.length ≤ 1000000) : CallOK Try.prog 65 [bs p] [] 0 (Out (decA true p) [] 0) := by
  refine CallOK.fit (by decide) ?_
  refine callOK Try.call65 Try.func65 Try.ntmps65 rfl ?_
  conv => arg 4; whnf
  refine callNew (newReader (b := p) (by omega)) (ClL.cons (Cl.bs _) ClL.nil) (ClO.RO _ _) ?_
  (conv => arg 4; whnf); repeat (refine ⟨rfl, ?_⟩; conv => arg 4; whnf)
  refine tri_loopG (ι := DcI true p) (fun a => ⟨[(4, .ptr 0 0), (2, .sl (.tok 1 a.s) 2 (prsL a.l)), (0, bs p)], [(1, .tip a.s), (0, RO a.r a.e)], 2, 39⟩) (fun a => a.m) ⟨0, 0, p.length + 1, p, 0, [], Nat.zero_le _, by omega, fun x hx => (by cases hx), Nat.zero_le _, .inl ⟨rfl, rfl, rfl, Nat.zero_le _, rfl⟩⟩ (WkG.tok rfl rfl ⟨Le.refl _ _, Le.nilsTok rfl, Le.refl _ _, trivial⟩ ⟨⟨_, rfl, rfl⟩, ⟨_, rfl, LeO.refl _ _⟩, trivial⟩ ⟨rfl, rfl, Cl.bs _ _, trivial⟩ ⟨⟨by decide, rfl⟩, ⟨by decide, ClO.RO _ _ _⟩, trivial⟩) ?_
  rintro ⟨k, s, m, r, e, l, hk, hrl, hint, hlp, hh⟩
  dsimp only
  conv => arg 4; whnf
  refine call1 0 rLeft rfl rfl (ClO.RO _ _) (ClO.RO _ _) rfl (Cl.int _ _) ?_
  (conv => arg 4; whnf); repeat (refine ⟨rfl, ?_⟩; conv => arg 4; whnf)
  refine ⟨fun h => ?_, fun h => ?_⟩
  · have h : e = 0 ∧ r ≠ [] := by
      simp only [gt_iff_lt, decide_eq_true_eq] at h
      split at h
      · refine ⟨by assumption, ?_⟩
        rintro rfl
        simp at h
      · omega
    obtain ⟨rfl, hr0⟩ := h
    have hh := hh.resolve_right fun q => q.1 rfl
    obtain ⟨-, hl1, hr, hk1, hm⟩ := hh
    have hlt : 16 * k < p.length := by
      have := List.length_pos_iff.2 hr0
      rw [hr, List.length_drop] at this
      omega
    have hll : l.length ≤ p.length := by rw [hl1, entN_len]; omega
    have hrl' : r.length ≤ p.length := by rw [hr, List.length_drop]; omega
    (conv => arg 4; whnf); repeat (refine ⟨rfl, ?_⟩; conv => arg 4; whnf)
    refine call1E 0 (rFixedE (b := r) (e := 0) (size := 8) (by unfold I64; omega) (by omega)) rfl rfl (ClO.RO _ _) (fun x => ClO.RO _ _) rfl (fun x => Cl.int _ _) fun x1 h1 => ?_
    have l1 := h1.2.length_le
    (conv => arg 4; whnf); repeat (refine ⟨rfl, ?_⟩; conv => arg 4; whnf)
    refine call1E 0 (rFixedE (b := x1.r) (e := x1.e) (size := 8) (by unfold I64; omega) (by omega)) rfl rfl (ClO.RO _ _) (fun x => ClO.RO _ _) rfl (fun x => Cl.int _ _) fun x2 h2 => ?_
    have l2 := h2.2.length_le
    (conv => arg 4; whnf); repeat (refine ⟨rfl, ?_⟩; conv => arg 4; whnf)
    refine ⟨⟨rfl, sizeOk 16 rfl (by rw [List.length_append, prs_length]; simp only [List.length_cons, List.length_nil]; omega)⟩, ?_⟩
    (conv => arg 4; whnf); repeat (refine ⟨rfl, ?_⟩; conv => arg 4; whnf)
    obtain ⟨⟨i1, i2⟩, hs⟩ := dec_step (tm := true) hr hlt h1.1 h2.1
    have hi2 : Ints (l ++ [(x1.v, x2.v)]) := fun x hx => by
      rcases List.mem_append.1 hx with hx | hx
      · exact hint x hx
      · rw [List.mem_singleton.1 hx]; exact ⟨i1, i2⟩
    have hl2 : (l ++ [(x1.v, x2.v)]).length ≤ p.length := by rw [List.length_append, List.length_singleton, hl1, entN_len]; omega
    rcases hs with ⟨q1, q2, q3, q4⟩ | ⟨q1, q2⟩
    · exact ⟨⟨k + 1, s + 1, p.length - 16 * (k + 1) + 1, x2.r, x2.e, l ++ [(x1.v, x2.v)], Nat.zero_le _, by omega, hi2, hl2, .inl ⟨q1, by rw [q2, hl1, entN_succ], q3, q4, rfl⟩⟩, by show p.length - 16 * (k + 1) + 1 < m; omega, WkG.of rfl rfl ⟨Le.refl _ _, Le.of_eq (congrArg (AV.sl (.tok 1 (s + 1)) 2) (prs_snoc l (x1.v, x2.v))), Le.refl _ _, trivial⟩ ⟨⟨_, rfl, LeO.refl _ _⟩, ⟨_, rfl, LeO.refl _ _⟩, trivial⟩ ⟨rfl, cut_sl (ClL.prs _) rfl, Cl.bs _ _, trivial⟩ ⟨⟨by decide, rfl⟩, ⟨by decide, ClO.RO _ _ _⟩, trivial⟩⟩
    · exact ⟨⟨k + 1, s + 1, 0, x2.r, x2.e, l ++ [(x1.v, x2.v)], Nat.zero_le _, by omega, hi2, hl2, .inr ⟨q1, q2, rfl⟩⟩, by show 0 < m; omega, WkG.of rfl rfl ⟨Le.refl _ _, Le.of_eq (congrArg (AV.sl (.tok 1 (s + 1)) 2) (prs_snoc l (x1.v, x2.v))), Le.refl _ _, trivial⟩ ⟨⟨_, rfl, LeO.refl _ _⟩, ⟨_, rfl, LeO.refl _ _⟩, trivial⟩ ⟨rfl, cut_sl (ClL.prs _) rfl, Cl.bs _ _, trivial⟩ ⟨⟨by decide, rfl⟩, ⟨by decide, ClO.RO _ _ _⟩, trivial⟩⟩
  · skip
    have h : e = 0 → r = [] := fun he => by
      rw [if_pos he] at h
      simp at h
      exact h
    conv => arg 4; whnf
    refine fin_exit ?_
    show holds _ _ _ _
    conv => arg 4; whnf
    refine holds_args (args' := [prsV l]) ⟨Le.none, trivial⟩ ?_
    refine call0 (tiEnc (by omega) hint) (ClL.cons (Cl.prsV _) ClL.nil) (Cl.entA _ _) ?_
    (conv => arg 4; whnf); repeat (refine ⟨rfl, ?_⟩; conv => arg 4; whnf)
    have hent : e = 0 → l = entD p ∧ p.length % 16 = 0 ∧ 16 * k = p.length := fun he => by
      rcases hh with ⟨-, h1, h2, h3, -⟩ | ⟨h1, -⟩
      · have h4 := h he
        rw [h2] at h4
        have h5 := congrArg List.length h4
        rw [List.length_drop, List.length_nil] at h5
        have h6 : k = p.length / 16 := by omega
        exact ⟨by rw [h1, entD, h6], by omega, by omega⟩
      · exact absurd he h1
    have hbad : e ≠ 0 → ¬ DecE true p := fun he => by
      rcases hh with ⟨h1, -⟩ | ⟨-, h1, -⟩
      · exact absurd h1 he
      · exact h1
    refine ⟨fun hc => ?_, fun hc => ?_⟩
    · have hc : ¬ OkE true (st0 true) l := fun ho => by
        rw [entE_yes ho] at hc
        cases hc
      have hn : ¬ DecE true p := fun hd => by
        by_cases he : e = 0
        · rw [(hent he).1] at hc; exact hc hd.2
        · exact hbad he hd
      (conv => arg 4; whnf); repeat (refine ⟨rfl, ?_⟩; conv => arg 4; whnf)
      rw [decA_no hn]
      exact ⟨by decide, by (repeat' (first | with_reducible exact Le.refl _ _ | exact Le.bl | exact Le.lb | exact Le.nils | exact Le.nilsFull | exact Le.none | exact LeL.nil _ | refine LeL.cons ?_ ?_ | refine Le.tup ?_ | refine Le.agg ?_ | exact Le.refl _ _ | exact LeL.refl _ _)), trivial, (by (repeat' (first | with_reducible assumption | exact ClL.nil | exact Cl.int _ _ | exact Cl.bool _ | exact Cl.bl _ | exact Cl.bs _ | exact Cl.str _ | exact Cl.nils | exact Cl.nilp | exact Cl.rec _ | exact Cl.bat _ | exact Cl.recsV _ | exact Cl.strsV _ | exact Cl.intsV _ | exact Cl.req _ | exact Cl.rsp _ | exact Cl.reqA _ | exact Cl.rspA _ | exact Cl.batsV _ | exact Cl.prsV _ | exact Cl.atsV _ | exact Cl.entA _ _ | exact Cl.foundA _ | exact Cl.getB _ | exact Cl.encA _ | exact Cl.firstA _ | refine ClL.cons ?_ ?_ | refine Cl.tup ?_ | refine Cl.agg ?_ | exact ClO.RO _ _)) : Cl _) _, trivial⟩
    · have hc : OkE true (st0 true) l := by
        by_cases ho : OkE true (st0 true) l
        · exact ho
        · rw [entE_no ho] at hc; cases hc
      (conv => arg 4; whnf); repeat (refine ⟨rfl, ?_⟩; conv => arg 4; whnf)
      refine call1 0 rErrE rfl rfl (ClO.RO _ _) (ClO.RO _ _) rfl (Cl.int _ _) ?_
      (conv => arg 4; whnf); repeat (refine ⟨rfl, ?_⟩; conv => arg 4; whnf)
      refine ⟨ctxP_of (by decide), ?_⟩
      (conv => arg 4; whnf); repeat (refine ⟨rfl, ?_⟩; conv => arg 4; whnf)
      refine ⟨fun hq => ?_, fun hq => ?_⟩
      · simp only [Bool.cond_true_left, Bool.cond_false_right, Bool.or_eq_true, Bool.and_eq_true, Bool.not_eq_true', decide_eq_true_eq, beq_iff_eq, bne_iff_ne, u8s_length, Bool.not_eq_true, gt_iff_lt, ge_iff_le] at hq
        have hn : ¬ DecE true p := fun hd => by
          rcases hq with hq | hq
          · exact hbad hq hd
          · exact hq ((tmod16 _).2 hd.1)
        (conv => arg 4; whnf); repeat (refine ⟨rfl, ?_⟩; conv => arg 4; whnf)
        rw [decA_no hn]
        exact ⟨by decide, by (repeat' (first | with_reducible exact Le.refl _ _ | exact Le.bl | exact Le.lb | exact Le.nils | exact Le.nilsFull | exact Le.none | exact LeL.nil _ | refine LeL.cons ?_ ?_ | refine Le.tup ?_ | refine Le.agg ?_ | exact Le.refl _ _ | exact LeL.refl _ _)), trivial, (by (repeat' (first | with_reducible assumption | exact ClL.nil | exact Cl.int _ _ | exact Cl.bool _ | exact Cl.bl _ | exact Cl.bs _ | exact Cl.str _ | exact Cl.nils | exact Cl.nilp | exact Cl.rec _ | exact Cl.bat _ | exact Cl.recsV _ | exact Cl.strsV _ | exact Cl.intsV _ | exact Cl.req _ | exact Cl.rsp _ | exact Cl.reqA _ | exact Cl.rspA _ | exact Cl.batsV _ | exact Cl.prsV _ | exact Cl.atsV _ | exact Cl.entA _ _ | exact Cl.foundA _ | exact Cl.getB _ | exact Cl.encA _ | exact Cl.firstA _ | refine ClL.cons ?_ ?_ | refine Cl.tup ?_ | refine Cl.agg ?_ | exact ClO.RO _ _)) : Cl _) _, trivial⟩
      · rw [← Bool.not_eq_true] at hq; simp only [Bool.cond_true_left, Bool.cond_false_right, Bool.or_eq_true, Bool.and_eq_true, Bool.not_eq_true', decide_eq_true_eq, beq_iff_eq, bne_iff_ne, u8s_length, gt_iff_lt, ge_iff_le] at hq
        have he : e = 0 := Decidable.byContradiction fun h => hq (.inl h)
        obtain ⟨q1, q2, -⟩ := hent he
        have hd : DecE true p := ⟨q2, by rw [← q1]; exact hc⟩
        (conv => arg 4; whnf); repeat (refine ⟨rfl, ?_⟩; conv => arg 4; whnf)
        rw [decA_yes hd, ← q1]
        exact ⟨by decide, by (repeat' (first | with_reducible exact Le.refl _ _ | exact Le.bl | exact Le.lb | exact Le.nils | exact Le.nilsFull | exact Le.none | exact LeL.nil _ | refine LeL.cons ?_ ?_ | refine Le.tup ?_ | refine Le.agg ?_ | exact Le.refl _ _ | exact LeL.refl _ _)), trivial, Cl.tup (ClL.cons (Cl.prsV _) (ClL.cons (Cl.int _ _) ClL.nil)) _, trivial⟩
end Go.Proofs.Ytejocegoockacaa.Ix

namespace Go.Proofs.Ytejocegoockacaa.Ix
set_option maxRecDepth 100000
set_option maxHeartbeats 80000000
open Go.Sym

structure ReI (p : List UInt8) where
  k : Nat
  s : Nat
  hk : 16 * k ≤ p.length

theorem refDecE {p : List UInt8} (hl : p.length ≤ 1000000) : CallOK Try.prog 73 [bs p, .bl false] [] 0 (Out (decA false p) [] 0) := by
  refine CallOK.fit (by decide) ?_
  refine callOK Try.call73 Try.func73 Try.ntmps73 rfl ?_
  conv => arg 4; whnf
  refine ⟨by decide, ?_⟩
  (conv => arg 4; whnf); repeat (refine ⟨rfl, ?_⟩; conv => arg 4; whnf)
  refine ⟨fun hq => ?_, fun hq => ?_⟩
  · simp only [Bool.cond_true_left, Bool.cond_false_right, Bool.or_eq_true, Bool.and_eq_true, Bool.not_eq_true', decide_eq_true_eq, beq_iff_eq, bne_iff_ne, u8s_length, Bool.not_eq_true, gt_iff_lt, ge_iff_le] at hq
    have hn : ¬ DecE false p := fun hd => hq ((tmod16 _).2 hd.1)
    (conv => arg 4; whnf); repeat (refine ⟨rfl, ?_⟩; conv => arg 4; whnf)
    rw [decA_no hn]
    exact ⟨by decide, by (repeat' (first | with_reducible exact Le.refl _ _ | exact Le.bl | exact Le.lb | exact Le.nils | exact Le.nilsFull | exact Le.none | exact LeL.nil _ | refine LeL.cons ?_ ?_ | refine Le.tup ?_ | refine Le.agg ?_ | exact Le.refl _ _ | exact LeL.refl _ _)), trivial, (by (repeat' (first | with_reducible assumption | exact ClL.nil | exact Cl.int _ _ | exact Cl.bool _ | exact Cl.bl _ | exact Cl.bs _ | exact Cl.str _ | exact Cl.nils | exact Cl.nilp | exact Cl.rec _ | exact Cl.bat _ | exact Cl.recsV _ | exact Cl.strsV _ | exact Cl.intsV _ | exact Cl.req _ | exact Cl.rsp _ | exact Cl.reqA _ | exact Cl.rspA _ | exact Cl.batsV _ | exact Cl.prsV _ | exact Cl.atsV _ | exact Cl.entA _ _ | exact Cl.foundA _ | exact Cl.getB _ | exact Cl.encA _ | exact Cl.firstA _ | refine ClL.cons ?_ ?_ | refine Cl.tup ?_ | refine Cl.agg ?_ | exact ClO.RO _ _)) : Cl _) _, trivial⟩
  · rw [← Bool.not_eq_true] at hq; simp only [Bool.cond_true_left, Bool.cond_false_right, Bool.or_eq_true, Bool.and_eq_true, Bool.not_eq_true', decide_eq_true_eq, beq_iff_eq, bne_iff_ne, u8s_length, gt_iff_lt, ge_iff_le] at hq
    have h16 : p.length % 16 = 0 := (tmod16 _).1 (Decidable.byContradiction hq)
    (conv => arg 4; whnf); repeat (refine ⟨rfl, ?_⟩; conv => arg 4; whnf)
    refine tri_loopG (ι := ReI p) (fun a => ⟨[(7, .int .i64 ((16 * a.k : Nat) : Int)), (6, .sl (.tok 0 a.s) 2 (prsL (entN p a.k))), (0, bs p), (1, .bl false)], [(0, .tip a.s)], 1, 46⟩) (fun a => p.length - a.k) ⟨0, 0, Nat.zero_le _⟩ (WkG.tok rfl rfl ⟨Le.refl _ _, Le.nilsTok rfl, Le.refl _ _, Le.refl _ _, trivial⟩ ⟨⟨_, rfl, rfl⟩, trivial⟩ ⟨rfl, rfl, Cl.bs _ _, rfl, trivial⟩ ⟨⟨by decide, rfl⟩, trivial⟩) ?_
    rintro ⟨k, s, hk⟩
    dsimp only
    generalize hj : 16 * k = j
    rw [hj] at hk
    conv => arg 4; whnf
    refine ⟨fun h => ?_, fun h => ?_⟩
    · have h : j < p.length := by rw [u8s_length] at h; simp at h; omega
      (conv => arg 4; whnf); repeat (refine ⟨rfl, ?_⟩; conv => arg 4; whnf)
      have hw8 : IntKind.i64.wrap ((j : Int) + 8) = ((j + 8 : Nat) : Int) := by rw [IntKind.wrap_i64]; omega
      have hw16 : IntKind.i64.wrap ((j : Int) + 16) = ((j + 16 : Nat) : Int) := by rw [IntKind.wrap_i64]; omega
      refine ⟨by rw [hw8, u8s_length]; omega, ?_⟩
      (conv => arg 4; whnf); repeat (refine ⟨rfl, ?_⟩; conv => arg 4; whnf)
      refine ⟨by rw [hw8, hw16, u8s_length]; omega, ?_⟩
      (conv => arg 4; whnf); repeat (refine ⟨rfl, ?_⟩; conv => arg 4; whnf)
      refine holds_args (args' := [.sl .none 0 (((u8s p).take (j + 8)).drop j)]) ⟨Le.of_eq (congrArg (AV.sl .none 0) (by rw [hw8]; rfl)), trivial⟩ ?_
      refine call0 (getFx (P := p) (a := j) (b := j + 8) (by omega)) (clFx _ _ _) (by (repeat' (first | with_reducible assumption | exact ClL.nil | exact Cl.int _ _ | exact Cl.bool _ | exact Cl.bl _ | exact Cl.bs _ | exact Cl.str _ | exact Cl.nils | exact Cl.nilp | exact Cl.rec _ | exact Cl.bat _ | exact Cl.recsV _ | exact Cl.strsV _ | exact Cl.intsV _ | exact Cl.req _ | exact Cl.rsp _ | exact Cl.reqA _ | exact Cl.rspA _ | exact Cl.batsV _ | exact Cl.prsV _ | exact Cl.atsV _ | exact Cl.entA _ _ | exact Cl.foundA _ | exact Cl.getB _ | exact Cl.encA _ | exact Cl.firstA _ | refine ClL.cons ?_ ?_ | refine Cl.tup ?_ | refine Cl.agg ?_ | exact ClO.RO _ _))) ?_
      (conv => arg 4; whnf); repeat (refine ⟨rfl, ?_⟩; conv => arg 4; whnf)
      refine holds_args (args' := [.sl .none 0 (((u8s p).take (j + 16)).drop (j + 8))]) ⟨Le.of_eq (congrArg (AV.sl .none 0) (by rw [hw8, hw16]; rfl)), trivial⟩ ?_
      refine call0 (getFx (P := p) (a := j + 8) (b := j + 16) (by omega)) (clFx _ _ _) (by (repeat' (first | with_reducible assumption | exact ClL.nil | exact Cl.int _ _ | exact Cl.bool _ | exact Cl.bl _ | exact Cl.bs _ | exact Cl.str _ | exact Cl.nils | exact Cl.nilp | exact Cl.rec _ | exact Cl.bat _ | exact Cl.recsV _ | exact Cl.strsV _ | exact Cl.intsV _ | exact Cl.req _ | exact Cl.rsp _ | exact Cl.reqA _ | exact Cl.rspA _ | exact Cl.batsV _ | exact Cl.prsV _ | exact Cl.atsV _ | exact Cl.entA _ _ | exact Cl.foundA _ | exact Cl.getB _ | exact Cl.encA _ | exact Cl.firstA _ | refine ClL.cons ?_ ?_ | refine Cl.tup ?_ | refine Cl.agg ?_ | exact ClO.RO _ _))) ?_
      (conv => arg 4; whnf); repeat (refine ⟨rfl, ?_⟩; conv => arg 4; whnf)
      refine ⟨⟨rfl, sizeOk 16 rfl (by rw [List.length_append, prs_length, entN_len]; simp only [List.length_cons, List.length_nil]; omega)⟩, ?_⟩
      (conv => arg 4; whnf); repeat (refine ⟨rfl, ?_⟩; conv => arg 4; whnf)
      exact ⟨⟨k + 1, s + 1, by omega⟩, by show p.length - (k + 1) < p.length - k; omega, WkG.of rfl rfl ⟨Le.of_eq (congrArg (AV.int .i64) (hw16.trans (by show ((j + 16 : Nat) : Int) = ((16 * (k + 1) : Nat) : Int); omega))), Le.of_eq (congrArg (AV.sl (.tok 0 (s + 1)) 2) (by rw [entN_succ, ← prs_snoc, entF, hj]; rfl)), Le.refl _ _, Le.refl _ _, trivial⟩ ⟨⟨_, rfl, LeO.refl _ _⟩, trivial⟩ ⟨rfl, cut_sl (ClL.prs _) rfl, Cl.bs _ _, rfl, trivial⟩ ⟨⟨by decide, rfl⟩, trivial⟩⟩
    · have h : j = p.length := by rw [u8s_length] at h; simp at h; omega
      have hd : entN p k = entD p := by rw [entD]; congr 1; omega
      conv => arg 4; whnf
      refine fin_exit ?_
      show holds _ _ _ _
      conv => arg 4; whnf
      refine holds_args (args' := [prsV (entN p k), .bl false]) ⟨Le.none, Le.refl _ _, trivial⟩ ?_
      refine call0 (refEncE (by rw [entN_len]; omega) (fun x hx => by
        obtain ⟨i, -, rfl⟩ := List.mem_map.1 hx
        exact ⟨fxAt_i64 _ _ _, fxAt_i64 _ _ _⟩)) (ClL.cons (Cl.prsV _) (ClL.cons (Cl.bl _) ClL.nil)) (Cl.entA _ _) ?_
      (conv => arg 4; whnf); repeat (refine ⟨rfl, ?_⟩; conv => arg 4; whnf)
      refine ⟨fun hc => ?_, fun hc => ?_⟩
      · have hn : ¬ DecE false p := fun hd2 => by
          rw [hd, entE_yes hd2.2] at hc
          cases hc
        (conv => arg 4; whnf); repeat (refine ⟨rfl, ?_⟩; conv => arg 4; whnf)
        rw [decA_no hn]
        exact ⟨by decide, by (repeat' (first | with_reducible exact Le.refl _ _ | exact Le.bl | exact Le.lb | exact Le.nils | exact Le.nilsFull | exact Le.none | exact LeL.nil _ | refine LeL.cons ?_ ?_ | refine Le.tup ?_ | refine Le.agg ?_ | exact Le.refl _ _ | exact LeL.refl _ _)), trivial, (by (repeat' (first | with_reducible assumption | exact ClL.nil | exact Cl.int _ _ | exact Cl.bool _ | exact Cl.bl _ | exact Cl.bs _ | exact Cl.str _ | exact Cl.nils | exact Cl.nilp | exact Cl.rec _ | exact Cl.bat _ | exact Cl.recsV _ | exact Cl.strsV _ | exact Cl.intsV _ | exact Cl.req _ | exact Cl.rsp _ | exact Cl.reqA _ | exact Cl.rspA _ | exact Cl.batsV _ | exact Cl.prsV _ | exact Cl.atsV _ | exact Cl.entA _ _ | exact Cl.foundA _ | exact Cl.getB _ | exact Cl.encA _ | exact Cl.firstA _ | refine ClL.cons ?_ ?_ | refine Cl.tup ?_ | refine Cl.agg ?_ | exact ClO.RO _ _)) : Cl _) _, trivial⟩
      · have hd2 : DecE false p := ⟨h16, by
          by_cases ho : OkE false (st0 false) (entD p)
          · exact ho
          · rw [hd, entE_no ho] at hc; cases hc⟩
        (conv => arg 4; whnf); repeat (refine ⟨rfl, ?_⟩; conv => arg 4; whnf)
        rw [decA_yes hd2, hd]
        exact ⟨by decide, by (repeat' (first | with_reducible exact Le.refl _ _ | exact Le.bl | exact Le.lb | exact Le.nils | exact Le.nilsFull | exact Le.none | exact LeL.nil _ | refine LeL.cons ?_ ?_ | refine Le.tup ?_ | refine Le.agg ?_ | exact Le.refl _ _ | exact LeL.refl _ _)), trivial, Cl.tup (ClL.cons (Cl.prsV _) (ClL.cons (Cl.int _ _) ClL.nil)) _, trivial⟩
structure SbI (p : List UInt8) (f : Int) where
  i : Nat
  hi : i ≤ (allP p 0 (-1)).length

theorem begs_take {l : List (Nat × Bat)} {i : Nat} {x : Nat × Bat} (h : l[i]? = some x) (f : Int) : (bif begs (l.take i) f then true else (x.1 : Int) == f) = begs (l.take (i + 1)) f := by
  have : l.take (i + 1) = l.take i ++ [x] := by rw [List.take_add_one, h]; rfl
  rw [this]
  unfold begs
  rw [List.any_append]
  cases (l.take i).any fun x => decide ((x.1 : Int) = f)
  · simp only [cond_false, List.any_cons, List.any_nil, Bool.or_false, Bool.false_or]
    by_cases h : (x.1 : Int) = f <;> simp [h]
  · rfl
structure ScI (p : List UInt8) (f off : Int) where
  i : Nat
  hi : i ≤ (allP p 0 (-1)).length
  h : seekL f off (allP p 0 (-1)) = seekL f off ((allP p 0 (-1)).drop i)

theorem refSeek {p : List UInt8} {l : List (Int × Int)} {off : Int} (hl : p.length ≤ 100000000) (hll : l.length ≤ 1000000) : CallOK Try.prog 75 [bs p, prsV l, .int .i64 off] [] 0 (Out (.tup [.int .i64 (seekP p l off).1, .bool (seekP p l off).2]) [] 0) := by
  refine CallOK.fit (by decide) ?_
  refine callOK Try.call75 Try.func75 Try.ntmps75 rfl ?_
  conv => arg 4; whnf
  refine call0 (refLkO hll) (ClL.cons (Cl.prsV _) (ClL.cons (Cl.int _ _) ClL.nil)) (by (repeat' (first | with_reducible assumption | exact ClL.nil | exact Cl.int _ _ | exact Cl.bool _ | exact Cl.bl _ | exact Cl.bs _ | exact Cl.str _ | exact Cl.nils | exact Cl.nilp | exact Cl.rec _ | exact Cl.bat _ | exact Cl.recsV _ | exact Cl.strsV _ | exact Cl.intsV _ | exact Cl.req _ | exact Cl.rsp _ | exact Cl.reqA _ | exact Cl.rspA _ | exact Cl.batsV _ | exact Cl.prsV _ | exact Cl.atsV _ | exact Cl.entA _ _ | exact Cl.foundA _ | exact Cl.getB _ | exact Cl.encA _ | exact Cl.firstA _ | refine ClL.cons ?_ ?_ | refine Cl.tup ?_ | refine Cl.agg ?_ | exact ClO.RO _ _))) ?_
  (conv => arg 4; whnf); repeat (refine ⟨rfl, ?_⟩; conv => arg 4; whnf)
  refine call0 (refAll hl) (by (repeat' (first | with_reducible assumption | exact ClL.nil | exact Cl.int _ _ | exact Cl.bool _ | exact Cl.bl _ | exact Cl.bs _ | exact Cl.str _ | exact Cl.nils | exact Cl.nilp | exact Cl.rec _ | exact Cl.bat _ | exact Cl.recsV _ | exact Cl.strsV _ | exact Cl.intsV _ | exact Cl.req _ | exact Cl.rsp _ | exact Cl.reqA _ | exact Cl.rspA _ | exact Cl.batsV _ | exact Cl.prsV _ | exact Cl.atsV _ | exact Cl.entA _ _ | exact Cl.foundA _ | exact Cl.getB _ | exact Cl.encA _ | exact Cl.firstA _ | refine ClL.cons ?_ ?_ | refine Cl.tup ?_ | refine Cl.agg ?_ | exact ClO.RO _ _))) (Cl.atsV _) ?_
  (conv => arg 4; whnf); repeat (refine ⟨rfl, ?_⟩; conv => arg 4; whnf)
  refine tri_loopG (ι := SbI p (lkO l off)) (fun a => ⟨[(11, .int .i64 a.i), (10, .bool (begs ((allP p 0 (-1)).take a.i) (lkO l off))), (9, atsV (allP p 0 (-1))), (8, .int .i64 (lkO l off)), (2, .int .i64 off)], [], 0, 64⟩) (fun a => (allP p 0 (-1)).length - a.i) ⟨0, Nat.zero_le _⟩ (WkG.of rfl rfl ⟨Le.refl _ _, Le.bl, Le.refl _ _, Le.refl _ _, Le.refl _ _, trivial⟩ trivial ⟨rfl, rfl, Cl.atsV _ _, rfl, rfl, trivial⟩ trivial) ?_
  rintro ⟨i, hi⟩
  dsimp only
  have hal := allP_len p 0 (-1)
  conv => arg 4; whnf
  refine ⟨fun h => ?_, fun h => ?_⟩
  · have h : i < (allP p 0 (-1)).length := by rw [ats_length] at h; simp at h; omega
    obtain ⟨x, hx⟩ : ∃ x, (allP p 0 (-1))[i]? = some x := ⟨_, List.getElem?_eq_getElem h⟩
    (conv => arg 4; whnf); repeat (refine ⟨rfl, ?_⟩; conv => arg 4; whnf)
    refine ⟨x |> atA, ctxP_of ⟨by omega, ats_get hx⟩, ?_⟩
    (conv => arg 4; whnf); repeat (refine ⟨rfl, ?_⟩; conv => arg 4; whnf)
    exact ⟨⟨i + 1, by omega⟩, by show (allP p 0 (-1)).length - (i + 1) < (allP p 0 (-1)).length - i; omega, WkG.of rfl rfl ⟨Le.of_eq (succ_i64 (by omega)), Le.of_eq (congrArg AV.bool (begs_take hx _)), Le.refl _ _, Le.refl _ _, Le.refl _ _, trivial⟩ trivial ⟨rfl, rfl, Cl.atsV _ _, rfl, rfl, trivial⟩ trivial⟩
  · have h : i = (allP p 0 (-1)).length := by rw [ats_length] at h; simp at h; omega
    subst h
    conv => arg 4; whnf
    refine fin_exit ?_
    show holds _ _ _ _
    conv => arg 4; whnf
    rw [List.take_length]
    refine ⟨fun hb => ?_, fun hb => ?_⟩
    · have hb : begs (allP p 0 (-1)) (lkO l off) = false := by simpa using hb
      have hs : seekP p l off = seekL 0 off (allP p 0 (-1)) := by unfold seekP; rw [hb]; rfl
      rw [hs]
      (conv => arg 4; whnf); repeat (refine ⟨rfl, ?_⟩; conv => arg 4; whnf)
      refine tri_loopG (ι := ScI p (0) off) (fun a => ⟨[(12, .int .i64 a.i), (9, atsV (allP p 0 (-1))), (8, .int .i64 (0)), (2, .int .i64 off)], [], 0, 64⟩) (fun a => (allP p 0 (-1)).length - a.i) ⟨0, Nat.zero_le _, rfl⟩ (WkG.of rfl rfl ⟨Le.refl _ _, Le.refl _ _, Le.refl _ _, Le.refl _ _, trivial⟩ trivial ⟨rfl, Cl.atsV _ _, rfl, rfl, trivial⟩ trivial) ?_
      rintro ⟨i, hi2, hh⟩
      dsimp only
      conv => arg 4; whnf
      refine ⟨fun h => ?_, fun h => ?_⟩
      · have h : i < (allP p 0 (-1)).length := by rw [ats_length] at h; simp at h; omega
        obtain ⟨x, hx⟩ : ∃ x, (allP p 0 (-1))[i]? = some x := ⟨_, List.getElem?_eq_getElem h⟩
        rw [drop_get hx, seekL_cons] at hh
        (conv => arg 4; whnf); repeat (refine ⟨rfl, ?_⟩; conv => arg 4; whnf)
        refine ⟨atA x, ⟨by omega, ats_get hx⟩, ?_⟩
        (conv => arg 4; whnf); repeat (refine ⟨rfl, ?_⟩; conv => arg 4; whnf)
        refine ⟨atA x, ctxP_of ⟨by omega, ats_get hx⟩, ?_⟩
        (conv => arg 4; whnf); repeat (refine ⟨rfl, ?_⟩; conv => arg 4; whnf)
        refine ⟨fun hc => ?_, fun hc => ?_⟩
        · simp only [Bool.cond_true_left, Bool.cond_false_right, Bool.or_eq_true, Bool.and_eq_true, Bool.not_eq_true', decide_eq_true_eq, beq_iff_eq, bne_iff_ne, u8s_length, Bool.not_eq_true, gt_iff_lt, ge_iff_le] at hc
          rw [if_pos (by omega)] at hh
          (conv => arg 4; whnf); repeat (refine ⟨rfl, ?_⟩; conv => arg 4; whnf)
          refine ⟨atA x, ⟨by omega, ats_get hx⟩, ?_⟩
          (conv => arg 4; whnf); repeat (refine ⟨rfl, ?_⟩; conv => arg 4; whnf)
          refine fin_ret ?_
          show holds _ _ _ _
          conv => arg 4; whnf
          rw [hh]
          exact ⟨by decide, by (repeat' (first | with_reducible exact Le.refl _ _ | exact Le.bl | exact Le.lb | exact Le.nils | exact Le.nilsFull | exact Le.none | exact LeL.nil _ | refine LeL.cons ?_ ?_ | refine Le.tup ?_ | refine Le.agg ?_ | exact Le.refl _ _ | exact LeL.refl _ _)), trivial, (by (repeat' (first | with_reducible assumption | exact ClL.nil | exact Cl.int _ _ | exact Cl.bool _ | exact Cl.bl _ | exact Cl.bs _ | exact Cl.str _ | exact Cl.nils | exact Cl.nilp | exact Cl.rec _ | exact Cl.bat _ | exact Cl.recsV _ | exact Cl.strsV _ | exact Cl.intsV _ | exact Cl.req _ | exact Cl.rsp _ | exact Cl.reqA _ | exact Cl.rspA _ | exact Cl.batsV _ | exact Cl.prsV _ | exact Cl.atsV _ | exact Cl.entA _ _ | exact Cl.foundA _ | exact Cl.getB _ | exact Cl.encA _ | exact Cl.firstA _ | refine ClL.cons ?_ ?_ | refine Cl.tup ?_ | refine Cl.agg ?_ | exact ClO.RO _ _)) : Cl _) _, trivial⟩
        · rw [← Bool.not_eq_true] at hc; simp only [Bool.cond_true_left, Bool.cond_false_right, Bool.or_eq_true, Bool.and_eq_true, Bool.not_eq_true', decide_eq_true_eq, beq_iff_eq, bne_iff_ne, u8s_length, gt_iff_lt, ge_iff_le] at hc
          rw [if_neg (by omega)] at hh
          (conv => arg 4; whnf); repeat (refine ⟨rfl, ?_⟩; conv => arg 4; whnf)
          exact ⟨⟨i + 1, by omega, hh⟩, by show (allP p 0 (-1)).length - (i + 1) < (allP p 0 (-1)).length - i; omega, WkG.of rfl rfl ⟨Le.of_eq (succ_i64 (by omega)), Le.refl _ _, Le.refl _ _, Le.refl _ _, trivial⟩ trivial ⟨rfl, Cl.atsV _ _, rfl, rfl, trivial⟩ trivial⟩
      · have h : i = (allP p 0 (-1)).length := by rw [ats_length] at h; simp at h; omega
        rw [h, List.drop_length] at hh
        conv => arg 4; whnf
        refine fin_exit ?_
        show holds _ _ _ _
        conv => arg 4; whnf
        rw [hh]
        exact ⟨by decide, by (repeat' (first | with_reducible exact Le.refl _ _ | exact Le.bl | exact Le.lb | exact Le.nils | exact Le.nilsFull | exact Le.none | exact LeL.nil _ | refine LeL.cons ?_ ?_ | refine Le.tup ?_ | refine Le.agg ?_ | exact Le.refl _ _ | exact LeL.refl _ _)), trivial, (by (repeat' (first | with_reducible assumption | exact ClL.nil | exact Cl.int _ _ | exact Cl.bool _ | exact Cl.bl _ | exact Cl.bs _ | exact Cl.str _ | exact Cl.nils | exact Cl.nilp | exact Cl.rec _ | exact Cl.bat _ | exact Cl.recsV _ | exact Cl.strsV _ | exact Cl.intsV _ | exact Cl.req _ | exact Cl.rsp _ | exact Cl.reqA _ | exact Cl.rspA _ | exact Cl.batsV _ | exact Cl.prsV _ | exact Cl.atsV _ | exact Cl.entA _ _ | exact Cl.foundA _ | exact Cl.getB _ | exact Cl.encA _ | exact Cl.firstA _ | refine ClL.cons ?_ ?_ | refine Cl.tup ?_ | refine Cl.agg ?_ | exact ClO.RO _ _)) : Cl _) _, trivial⟩
    · have hb : begs (allP p 0 (-1)) (lkO l off) = true := by simpa using hb
      have hs : seekP p l off = seekL (lkO l off) off (allP p 0 (-1)) := by unfold seekP; rw [hb]; rfl
      rw [hs]
      (conv => arg 4; whnf); repeat (refine ⟨rfl, ?_⟩; conv => arg 4; whnf)
      refine tri_loopG (ι := ScI p (lkO l off) off) (fun a => ⟨[(12, .int .i64 a.i), (9, atsV (allP p 0 (-1))), (8, .int .i64 (lkO l off)), (2, .int .i64 off)], [], 0, 64⟩) (fun a => (allP p 0 (-1)).length - a.i) ⟨0, Nat.zero_le _, rfl⟩ (WkG.of rfl rfl ⟨Le.refl _ _, Le.refl _ _, Le.refl _ _, Le.refl _ _, trivial⟩ trivial ⟨rfl, Cl.atsV _ _, rfl, rfl, trivial⟩ trivial) ?_
      rintro ⟨i, hi2, hh⟩
      dsimp only
      conv => arg 4; whnf
      refine ⟨fun h => ?_, fun h => ?_⟩
      · have h : i < (allP p 0 (-1)).length := by rw [ats_length] at h; simp at h; omega
        obtain ⟨x, hx⟩ : ∃ x, (allP p 0 (-1))[i]? = some x := ⟨_, List.getElem?_eq_getElem h⟩
        rw [drop_get hx, seekL_cons] at hh
        (conv => arg 4; whnf); repeat (refine ⟨rfl, ?_⟩; conv => arg 4; whnf)
        refine ⟨atA x, ⟨by omega, ats_get hx⟩, ?_⟩
        (conv => arg 4; whnf); repeat (refine ⟨rfl, ?_⟩; conv => arg 4; whnf)
        refine ⟨atA x, ctxP_of ⟨by omega, ats_get hx⟩, ?_⟩
        (conv => arg 4; whnf); repeat (refine ⟨rfl, ?_⟩; conv => arg 4; whnf)
        refine ⟨fun hc => ?_, fun hc => ?_⟩
        · simp only [Bool.cond_true_left, Bool.cond_false_right, Bool.or_eq_true, Bool.and_eq_true, Bool.not_eq_true', decide_eq_true_eq, beq_iff_eq, bne_iff_ne, u8s_length, Bool.not_eq_true, gt_iff_lt, ge_iff_le] at hc
          rw [if_pos (by omega)] at hh
          (conv => arg 4; whnf); repeat (refine ⟨rfl, ?_⟩; conv => arg 4; whnf)
          refine ⟨atA x, ⟨by omega, ats_get hx⟩, ?_⟩
          (conv => arg 4; whnf); repeat (refine ⟨rfl, ?_⟩; conv => arg 4; whnf)
          refine fin_ret ?_
          show holds _ _ _ _
          conv => arg 4; whnf
          rw [hh]
          exact ⟨by decide, by (repeat' (first | with_reducible exact Le.refl _ _ | exact Le.bl | exact Le.lb | exact Le.nils | exact Le.nilsFull | exact Le.none | exact LeL.nil _ | refine LeL.cons ?_ ?_ | refine Le.tup ?_ | refine Le.agg ?_ | exact Le.refl _ _ | exact LeL.refl _ _)), trivial, (by (repeat' (first | with_reducible assumption | exact ClL.nil | exact Cl.int _ _ | exact Cl.bool _ | exact Cl.bl _ | exact Cl.bs _ | exact Cl.str _ | exact Cl.nils | exact Cl.nilp | exact Cl.rec _ | exact Cl.bat _ | exact Cl.recsV _ | exact Cl.strsV _ | exact Cl.intsV _ | exact Cl.req _ | exact Cl.rsp _ | exact Cl.reqA _ | exact Cl.rspA _ | exact Cl.batsV _ | exact Cl.prsV _ | exact Cl.atsV _ | exact Cl.entA _ _ | exact Cl.foundA _ | exact Cl.getB _ | exact Cl.encA _ | exact Cl.firstA _ | refine ClL.cons ?_ ?_ | refine Cl.tup ?_ | refine Cl.agg ?_ | exact ClO.RO _ _)) : Cl _) _, trivial⟩
        · rw [← Bool.not_eq_true] at hc; simp only [Bool.cond_true_left, Bool.cond_false_right, Bool.or_eq_true, Bool.and_eq_true, Bool.not_eq_true', decide_eq_true_eq, beq_iff_eq, bne_iff_ne, u8s_length, gt_iff_lt, ge_iff_le] at hc
          rw [if_neg (by omega)] at hh
          (conv => arg 4; whnf); repeat (refine ⟨rfl, ?_⟩; conv => arg 4; whnf)
          exact ⟨⟨i + 1, by omega, hh⟩, by show (allP p 0 (-1)).length - (i + 1) < (allP p 0 (-1)).length - i; omega, WkG.of rfl rfl ⟨Le.of_eq (succ_i64 (by omega)), Le.refl _ _, Le.refl _ _, Le.refl _ _, trivial⟩ trivial ⟨rfl, Cl.atsV _ _, rfl, rfl, trivial⟩ trivial⟩
      · have h : i = (allP p 0 (-1)).length := by rw [ats_length] at h; simp at h; omega
        rw [h, List.drop_length] at hh
        conv => arg 4; whnf
        refine fin_exit ?_
        show holds _ _ _ _
        conv => arg 4; whnf
        rw [hh]
        exact ⟨by decide, by (repeat' (first | with_reducible exact Le.refl _ _ | exact Le.bl | exact Le.lb | exact Le.nils | exact Le.nilsFull | exact Le.none | exact LeL.nil _ | refine LeL.cons ?_ ?_ | refine Le.tup ?_ | refine Le.agg ?_ | exact Le.refl _ _ | exact LeL.refl _ _)), trivial, (by (repeat' (first | with_reducible assumption | exact ClL.nil | exact Cl.int _ _ | exact Cl.bool _ | exact Cl.bl _ | exact Cl.bs _ | exact Cl.str _ | exact Cl.nils | exact Cl.nilp | exact Cl.rec _ | exact Cl.bat _ | exact Cl.recsV _ | exact Cl.strsV _ | exact Cl.intsV _ | exact Cl.req _ | exact Cl.rsp _ | exact Cl.reqA _ | exact Cl.rspA _ | exact Cl.batsV _ | exact Cl.prsV _ | exact Cl.atsV _ | exact Cl.entA _ _ | exact Cl.foundA _ | exact Cl.getB _ | exact Cl.encA _ | exact Cl.firstA _ | refine ClL.cons ?_ ?_ | refine Cl.tup ?_ | refine Cl.agg ?_ | exact ClO.RO _ _)) : Cl _) _, trivial⟩
end Go.Proofs.Ytejocegoockacaa.Ix

namespace Go.Proofs.Ytejocegoockacaa.Ix
set_option maxRecDepth 100000
set_option maxHeartbeats 80000000
open Go.Sym

theorem awake6 : CallOK Try.prog 59 [] [] 0 (Out (.bool true) [] 0) := by
  refine CallOK.fit (by decide) ?_
  refine callOK Try.call59 Try.func59 Try.ntmps59 rfl ?_
  conv => arg 4; whnf
  refine holds_args (args' := [prsV [(3, 50), (7, 90)]]) ⟨Le.none, trivial⟩ ?_
  refine call0 (ixEnc (l := [(3, 50), (7, 90)]) (by decide) (by unfold Ints I64; decide)) (ClL.cons (Cl.prsV _) ClL.nil) (Cl.entA _ _) ?_
  have ho : OkE false (st0 false) [(3, 50), (7, 90)] := ⟨by decide, by decide, by decide, by decide, trivial⟩
  rw [entA_yes ho]
  (conv => arg 4; whnf); repeat (refine ⟨rfl, ?_⟩; conv => arg 4; whnf)
  refine holds_args (args' := [bs [1]]) ⟨Le.none, trivial⟩ ?_
  refine call0 (ixDec (p := [1]) (by decide)) (by (repeat' (first | with_reducible assumption | exact ClL.nil | exact Cl.int _ _ | exact Cl.bool _ | exact Cl.bl _ | exact Cl.bs _ | exact Cl.str _ | exact Cl.nils | exact Cl.nilp | exact Cl.rec _ | exact Cl.bat _ | exact Cl.recsV _ | exact Cl.strsV _ | exact Cl.intsV _ | exact Cl.req _ | exact Cl.rsp _ | exact Cl.reqA _ | exact Cl.rspA _ | exact Cl.batsV _ | exact Cl.prsV _ | exact Cl.atsV _ | exact Cl.entA _ _ | exact Cl.foundA _ | exact Cl.getB _ | exact Cl.encA _ | exact Cl.firstA _ | refine ClL.cons ?_ ?_ | refine Cl.tup ?_ | refine Cl.agg ?_ | exact ClO.RO _ _))) (Cl.decA _ _) ?_
  rw [decA_no (fun hd => absurd hd.1 (by decide))]
  (conv => arg 4; whnf); repeat (refine ⟨rfl, ?_⟩; conv => arg 4; whnf)
  refine holds_args (args' := [prsV [(3, 50), (7, 90)], .int .i64 6]) ⟨Le.none, Le.refl _ _, trivial⟩ ?_
  refine call0 (ixLkO (l := [(3, 50), (7, 90)]) (off := 6) (by decide)) (ClL.cons (Cl.prsV _) (ClL.cons (Cl.int _ _) ClL.nil)) (by (repeat' (first | with_reducible assumption | exact ClL.nil | exact Cl.int _ _ | exact Cl.bool _ | exact Cl.bl _ | exact Cl.bs _ | exact Cl.str _ | exact Cl.nils | exact Cl.nilp | exact Cl.rec _ | exact Cl.bat _ | exact Cl.recsV _ | exact Cl.strsV _ | exact Cl.intsV _ | exact Cl.req _ | exact Cl.rsp _ | exact Cl.reqA _ | exact Cl.rspA _ | exact Cl.batsV _ | exact Cl.prsV _ | exact Cl.atsV _ | exact Cl.entA _ _ | exact Cl.foundA _ | exact Cl.getB _ | exact Cl.encA _ | exact Cl.firstA _ | refine ClL.cons ?_ ?_ | refine Cl.tup ?_ | refine Cl.agg ?_ | exact ClO.RO _ _))) ?_
  (conv => arg 4; whnf); repeat (refine ⟨rfl, ?_⟩; conv => arg 4; whnf)
  refine ⟨fun _ => ?_, fun h' => absurd h' (by decide)⟩
  (conv => arg 4; whnf); repeat (refine ⟨rfl, ?_⟩; conv => arg 4; whnf)
  refine holds_args (args' := [prsV [(3, 50), (7, 90)], .int .i64 2]) ⟨Le.none, Le.refl _ _, trivial⟩ ?_
  refine call0 (ixLkO (l := [(3, 50), (7, 90)]) (off := 2) (by decide)) (ClL.cons (Cl.prsV _) (ClL.cons (Cl.int _ _) ClL.nil)) (by (repeat' (first | with_reducible assumption | exact ClL.nil | exact Cl.int _ _ | exact Cl.bool _ | exact Cl.bl _ | exact Cl.bs _ | exact Cl.str _ | exact Cl.nils | exact Cl.nilp | exact Cl.rec _ | exact Cl.bat _ | exact Cl.recsV _ | exact Cl.strsV _ | exact Cl.intsV _ | exact Cl.req _ | exact Cl.rsp _ | exact Cl.reqA _ | exact Cl.rspA _ | exact Cl.batsV _ | exact Cl.prsV _ | exact Cl.atsV _ | exact Cl.entA _ _ | exact Cl.foundA _ | exact Cl.getB _ | exact Cl.encA _ | exact Cl.firstA _ | refine ClL.cons ?_ ?_ | refine Cl.tup ?_ | refine Cl.agg ?_ | exact ClO.RO _ _))) ?_
  (conv => arg 4; whnf); repeat (refine ⟨rfl, ?_⟩; conv => arg 4; whnf)
  refine ⟨by decide, Le.of_eq (congrArg AV.bool (by decide)), trivial, (Cl.bool _) _, trivial⟩
theorem awake7 : CallOK Try.prog 62 [] [] 0 (Out (.bool true) [] 0) := by
  refine CallOK.fit (by decide) ?_
  refine callOK Try.call62 Try.func62 Try.ntmps62 rfl ?_
  conv => arg 4; whnf
  refine holds_args (args' := [prsV [(3, 5), (3, 9)]]) ⟨Le.none, trivial⟩ ?_
  refine call0 (tiEnc (l := [(3, 5), (3, 9)]) (by decide) (by unfold Ints I64; decide)) (ClL.cons (Cl.prsV _) ClL.nil) (Cl.entA _ _) ?_
  have ho : OkE true (st0 true) [(3, 5), (3, 9)] := ⟨by decide, by decide, by decide, by decide, trivial⟩
  rw [entA_yes ho]
  (conv => arg 4; whnf); repeat (refine ⟨rfl, ?_⟩; conv => arg 4; whnf)
  refine holds_args (args' := [bs [1]]) ⟨Le.none, trivial⟩ ?_
  refine call0 (tiDec (p := [1]) (by decide)) (by (repeat' (first | with_reducible assumption | exact ClL.nil | exact Cl.int _ _ | exact Cl.bool _ | exact Cl.bl _ | exact Cl.bs _ | exact Cl.str _ | exact Cl.nils | exact Cl.nilp | exact Cl.rec _ | exact Cl.bat _ | exact Cl.recsV _ | exact Cl.strsV _ | exact Cl.intsV _ | exact Cl.req _ | exact Cl.rsp _ | exact Cl.reqA _ | exact Cl.rspA _ | exact Cl.batsV _ | exact Cl.prsV _ | exact Cl.atsV _ | exact Cl.entA _ _ | exact Cl.foundA _ | exact Cl.getB _ | exact Cl.encA _ | exact Cl.firstA _ | refine ClL.cons ?_ ?_ | refine Cl.tup ?_ | refine Cl.agg ?_ | exact ClO.RO _ _))) (Cl.decA _ _) ?_
  rw [decA_no (fun hd => absurd hd.1 (by decide))]
  (conv => arg 4; whnf); repeat (refine ⟨rfl, ?_⟩; conv => arg 4; whnf)
  refine holds_args (args' := [prsV [(3, 5), (3, 9)], .int .i64 4]) ⟨Le.none, Le.refl _ _, trivial⟩ ?_
  refine call0 (tiLkT (l := [(3, 5), (3, 9)]) (off := 4) (by decide)) (ClL.cons (Cl.prsV _) (ClL.cons (Cl.int _ _) ClL.nil)) (by (repeat' (first | with_reducible assumption | exact ClL.nil | exact Cl.int _ _ | exact Cl.bool _ | exact Cl.bl _ | exact Cl.bs _ | exact Cl.str _ | exact Cl.nils | exact Cl.nilp | exact Cl.rec _ | exact Cl.bat _ | exact Cl.recsV _ | exact Cl.strsV _ | exact Cl.intsV _ | exact Cl.req _ | exact Cl.rsp _ | exact Cl.reqA _ | exact Cl.rspA _ | exact Cl.batsV _ | exact Cl.prsV _ | exact Cl.atsV _ | exact Cl.entA _ _ | exact Cl.foundA _ | exact Cl.getB _ | exact Cl.encA _ | exact Cl.firstA _ | refine ClL.cons ?_ ?_ | refine Cl.tup ?_ | refine Cl.agg ?_ | exact ClO.RO _ _))) ?_
  (conv => arg 4; whnf); repeat (refine ⟨rfl, ?_⟩; conv => arg 4; whnf)
  refine ⟨fun _ => ?_, fun h' => absurd h' (by decide)⟩
  (conv => arg 4; whnf); repeat (refine ⟨rfl, ?_⟩; conv => arg 4; whnf)
  refine holds_args (args' := [prsV [(3, 5), (3, 9)], .int .i64 3]) ⟨Le.none, Le.refl _ _, trivial⟩ ?_
  refine call0 (tiLkT (l := [(3, 5), (3, 9)]) (off := 3) (by decide)) (ClL.cons (Cl.prsV _) (ClL.cons (Cl.int _ _) ClL.nil)) (by (repeat' (first | with_reducible assumption | exact ClL.nil | exact Cl.int _ _ | exact Cl.bool _ | exact Cl.bl _ | exact Cl.bs _ | exact Cl.str _ | exact Cl.nils | exact Cl.nilp | exact Cl.rec _ | exact Cl.bat _ | exact Cl.recsV _ | exact Cl.strsV _ | exact Cl.intsV _ | exact Cl.req _ | exact Cl.rsp _ | exact Cl.reqA _ | exact Cl.rspA _ | exact Cl.batsV _ | exact Cl.prsV _ | exact Cl.atsV _ | exact Cl.entA _ _ | exact Cl.foundA _ | exact Cl.getB _ | exact Cl.encA _ | exact Cl.firstA _ | refine ClL.cons ?_ ?_ | refine Cl.tup ?_ | refine Cl.agg ?_ | exact ClO.RO _ _))) ?_
  (conv => arg 4; whnf); repeat (refine ⟨rfl, ?_⟩; conv => arg 4; whnf)
  refine ⟨by decide, Le.of_eq (congrArg AV.bool (by decide)), trivial, (Cl.bool _) _, trivial⟩
theorem made6 {l : List (Int × Int)} (hl : l.length ≤ 1000000) : CallOK Try.prog 70 [prsV l] [] 0 (Out (prsV l) [] 0) := by
  refine CallOK.fit (by decide) ?_
  refine callOK Try.call70 Try.func70 Try.ntmps70 rfl ?_
  conv => arg 4; whnf
  refine tri_loopG (ι := LkI l) (fun a => ⟨[(4, .int .i64 a.i), (3, .sl (.tok 0 a.i) 2 (prsL (l.take a.i))), (0, prsV l)], [(0, .tip a.i)], 1, 26⟩) (fun a => l.length - a.i) ⟨0, Nat.zero_le _⟩ (WkG.tok rfl rfl ⟨Le.refl _ _, Le.nilsTok rfl, Le.refl _ _, trivial⟩ ⟨⟨_, rfl, rfl⟩, trivial⟩ ⟨rfl, rfl, Cl.prsV _ _, trivial⟩ ⟨⟨by decide, rfl⟩, trivial⟩) ?_
  rintro ⟨i, hi⟩
  dsimp only
  conv => arg 4; whnf
  refine ⟨fun h => ?_, fun h => ?_⟩
  · have h : i < l.length := by rw [prs_length] at h; simp at h; omega
    obtain ⟨x, hx⟩ : ∃ x, l[i]? = some x := ⟨_, List.getElem?_eq_getElem h⟩
    (conv => arg 4; whnf); repeat (refine ⟨rfl, ?_⟩; conv => arg 4; whnf)
    refine ⟨prA x, ⟨by omega, prs_get hx⟩, ?_⟩
    (conv => arg 4; whnf); repeat (refine ⟨rfl, ?_⟩; conv => arg 4; whnf)
    refine ⟨prA x, ⟨by omega, prs_get hx⟩, ?_⟩
    (conv => arg 4; whnf); repeat (refine ⟨rfl, ?_⟩; conv => arg 4; whnf)
    refine ⟨⟨rfl, sizeOk 16 rfl (by rw [List.length_append, prs_length, List.length_take]; simp only [List.length_cons, List.length_nil]; omega)⟩, ?_⟩
    (conv => arg 4; whnf); repeat (refine ⟨rfl, ?_⟩; conv => arg 4; whnf)
    exact ⟨⟨i + 1, by omega⟩, by show l.length - (i + 1) < l.length - i; omega, WkG.of rfl rfl ⟨Le.of_eq (succ_i64 (by omega)), Le.of_eq (congrArg (AV.sl (.tok 0 (i + 1)) 2) (by rw [List.take_add_one, hx]; exact prs_snoc _ _)), Le.refl _ _, trivial⟩ ⟨⟨_, rfl, LeO.refl _ _⟩, trivial⟩ ⟨rfl, cut_sl (ClL.prs _) rfl, Cl.prsV _ _, trivial⟩ ⟨⟨by decide, rfl⟩, trivial⟩⟩
  · have h : i = l.length := by rw [prs_length] at h; simp at h; omega
    subst h
    conv => arg 4; whnf
    refine fin_exit ?_
    show holds _ _ _ _
    conv => arg 4; whnf
    rw [List.take_length]
    exact ⟨by decide, by (repeat' (first | with_reducible exact Le.refl _ _ | exact Le.bl | exact Le.lb | exact Le.nils | exact Le.nilsFull | exact Le.none | exact LeL.nil _ | refine LeL.cons ?_ ?_ | refine Le.tup ?_ | refine Le.agg ?_ | exact Le.refl _ _ | exact LeL.refl _ _)), trivial, (by (repeat' (first | with_reducible assumption | exact ClL.nil | exact Cl.int _ _ | exact Cl.bool _ | exact Cl.bl _ | exact Cl.bs _ | exact Cl.str _ | exact Cl.nils | exact Cl.nilp | exact Cl.rec _ | exact Cl.bat _ | exact Cl.recsV _ | exact Cl.strsV _ | exact Cl.intsV _ | exact Cl.req _ | exact Cl.rsp _ | exact Cl.reqA _ | exact Cl.rspA _ | exact Cl.batsV _ | exact Cl.prsV _ | exact Cl.atsV _ | exact Cl.entA _ _ | exact Cl.foundA _ | exact Cl.getB _ | exact Cl.encA _ | exact Cl.firstA _ | refine ClL.cons ?_ ?_ | refine Cl.tup ?_ | refine Cl.agg ?_ | exact ClO.RO _ _)) : Cl _) _, trivial⟩
theorem nep_step {a b : List (Int × Int)} {i : Nat} {x y : Int × Int} (hx : a[i]? = some x) (hy : b[i]? = some y) (e : x ≠ y) : a ≠ b := by
  intro h; subst h; rw [hx] at hy; cases hy; exact e rfl
structure SmI (a b : List (Int × Int)) where
  i : Nat
  hi : i ≤ a.length
  h : a.take i = b.take i

theorem same6 {a b : List (Int × Int)} (ha : a.length ≤ 1000000) : CallOK Try.prog 76 [prsV a, prsV b] [] 0 (Out (.bool (decide (a = b))) [] 0) := by
  refine CallOK.fit (by decide) ?_
  refine callOK Try.call76 Try.func76 Try.ntmps76 rfl ?_
  conv => arg 4; whnf
  refine ⟨fun h => ?_, fun h => ?_⟩
  · have h : a.length ≠ b.length := by rw [prs_length, prs_length] at h; simp at h; omega
    (conv => arg 4; whnf); repeat (refine ⟨rfl, ?_⟩; conv => arg 4; whnf)
    refine ⟨by decide, Le.blOf ?_, trivial, (Cl.bool _) _, trivial⟩
    exact (decide_eq_false (fun e => h (by rw [e]))).symm
  · have h : a.length = b.length := by rw [prs_length, prs_length] at h; simp at h; omega
    (conv => arg 4; whnf); repeat (refine ⟨rfl, ?_⟩; conv => arg 4; whnf)
    refine tri_loopG (ι := SmI a b) (fun x => ⟨[(5, .int .i64 x.i), (0, prsV a), (1, prsV b)], [], 0, 41⟩) (fun x => a.length - x.i) ⟨0, Nat.zero_le _, rfl⟩ (WkG.of rfl rfl ⟨Le.refl _ _, Le.refl _ _, Le.refl _ _, trivial⟩ trivial ⟨rfl, Cl.prsV _ _, Cl.prsV _ _, trivial⟩ trivial) ?_
    rintro ⟨i, hi, ht⟩
    dsimp only
    conv => arg 4; whnf
    refine ⟨fun h1 => ?_, fun h1 => ?_⟩
    · have hi' : i < a.length := by rw [prs_length] at h1; simp at h1; omega
      obtain ⟨x, hx⟩ : ∃ x, a[i]? = some x := ⟨_, List.getElem?_eq_getElem hi'⟩
      obtain ⟨y, hy⟩ : ∃ y, b[i]? = some y := ⟨_, List.getElem?_eq_getElem (by omega)⟩
      conv => arg 4; whnf
      refine ⟨prA x, ⟨by omega, prs_get hx⟩, ?_⟩
      (conv => arg 4; whnf); repeat (refine ⟨rfl, ?_⟩; conv => arg 4; whnf)
      refine ⟨prA y, ⟨by omega, prs_get hy⟩, ?_⟩
      (conv => arg 4; whnf); repeat (refine ⟨rfl, ?_⟩; conv => arg 4; whnf)
      refine ⟨fun h2 => ?_, fun h2 => ?_⟩
      · have h2 : x ≠ y := fun e => by rw [e] at h2; simp at h2
        (conv => arg 4; whnf); repeat (refine ⟨rfl, ?_⟩; conv => arg 4; whnf)
        refine fin_ret ?_
        show holds _ _ _ _
        conv => arg 4; whnf
        refine ⟨by decide, Le.blOf ?_, trivial, (Cl.bool _) _, trivial⟩
        exact (decide_eq_false (nep_step hx hy h2)).symm
      · have h2 : x.1 = y.1 := by simpa using h2
        (conv => arg 4; whnf); repeat (refine ⟨rfl, ?_⟩; conv => arg 4; whnf)
        refine ⟨prA x, ⟨by omega, prs_get hx⟩, ?_⟩
        (conv => arg 4; whnf); repeat (refine ⟨rfl, ?_⟩; conv => arg 4; whnf)
        refine ⟨prA y, ⟨by omega, prs_get hy⟩, ?_⟩
        (conv => arg 4; whnf); repeat (refine ⟨rfl, ?_⟩; conv => arg 4; whnf)
        refine ⟨fun h3 => ?_, fun h3 => ?_⟩
        · have h3 : x ≠ y := fun e => by rw [e] at h3; simp at h3
          (conv => arg 4; whnf); repeat (refine ⟨rfl, ?_⟩; conv => arg 4; whnf)
          refine fin_ret ?_
          show holds _ _ _ _
          conv => arg 4; whnf
          refine ⟨by decide, Le.blOf ?_, trivial, (Cl.bool _) _, trivial⟩
          exact (decide_eq_false (nep_step hx hy h3)).symm
        · have h3 : x.2 = y.2 := by simpa using h3
          (conv => arg 4; whnf); repeat (refine ⟨rfl, ?_⟩; conv => arg 4; whnf)
          exact ⟨⟨i + 1, hi', by rw [List.take_add_one, List.take_add_one, hx, hy, ht, show x = y from Prod.ext h2 h3]⟩, by show a.length - (i + 1) < a.length - i; omega, WkG.of rfl rfl ⟨Le.of_eq (succ_i64 (by omega)), Le.refl _ _, Le.refl _ _, trivial⟩ trivial ⟨rfl, Cl.prsV _ _, Cl.prsV _ _, trivial⟩ trivial⟩
    · have hi' : i = a.length := by rw [prs_length] at h1; simp at h1; omega
      have he : a = b := by rw [hi', List.take_length] at ht; rw [ht, h, List.take_length]
      conv => arg 4; whnf
      refine fin_exit ?_
      show holds _ _ _ _
      conv => arg 4; whnf
      refine ⟨by decide, Le.blOf ?_, trivial, (Cl.bool _) _, trivial⟩
      exact (decide_eq_true he).symm
end Go.Proofs.Ytejocegoockacaa.Ix

namespace Go.Proofs.Ytejocegoockacaa.Ix
set_option maxRecDepth 100000
set_option maxHeartbeats 80000000
open Go.Sym

theorem posL_place : ∀ (l : List Bat) (a : Nat), ∀ x ∈ posL a l, x.1 ≤ a + encN l
  | [], _, x, hx => by cases hx
  | b :: l, a, x, hx => by
    have e : encN (b :: l) = b.enc.length + encN l := by simp [encN]
    rcases List.mem_cons.1 hx with rfl | hx
    · simp only; omega
    · have := posL_place l _ x hx
      omega
theorem allP_place (p : List UInt8) (a : Nat) (last : Int) : ∀ x ∈ allP p a last, x.1 ≤ a + p.length := fun x hx => by
  have h1 := posL_place _ _ x hx
  have h2 := (encN_all _ (p.drop a) last (Nat.le_refl _)).1
  rw [List.length_drop] at h2
  omega

structure SpI (p : List UInt8) (every : Int) where
  i : Nat
  last : Int
  hi : i ≤ (bldP p every).length
  hl : 0 ≤ last ∧ last ≤ 4000
  h : Apart (max every 1) last ((bldP p every).drop i)
structure MtI (p : List UInt8) where
  k : Nat
  hk : k ≤ (allP p 0 (-1)).length
def mets (l : List (Nat × Bat)) (x : Int × Int) : Bool := l.any fun y => (decide ((y.1 : Int) = x.2) && decide (y.2.base = x.1))

theorem mets_take {l : List (Nat × Bat)} {i : Nat} {x : Nat × Bat} (h : l[i]? = some x) (e : Int × Int) : mets (l.take (i + 1)) e = (mets (l.take i) e || (decide ((x.1 : Int) = e.2) && decide (x.2.base = e.1))) := by
  have : l.take (i + 1) = l.take i ++ [x] := by rw [List.take_add_one, h]; rfl
  rw [this]
  unfold mets
  rw [List.any_append]
  simp
structure SeI (p : List UInt8) (off : Int) where
  i : Nat
  m : Bool
  w : Int
  hi : i ≤ (allP p 0 (-1)).length
  h : (m = false ∧ w = 0 ∧ seekL 0 off (allP p 0 (-1)) = seekL 0 off ((allP p 0 (-1)).drop i)) ∨ (m = true ∧ seekL 0 off (allP p 0 (-1)) = (w, true))

theorem lawSparse {p : List UInt8} {every : Int} : CallOK Try.prog 12 [bs p, .int .i64 every] [] 0 Tru := by
  refine callOK Try.call12 Try.func12 Try.ntmps12 rfl ?_
  conv => arg 4; whnf
  refine ⟨fun h => ?_, fun h => ?_⟩
  · (conv => arg 4; whnf); repeat (refine ⟨rfl, ?_⟩; conv => arg 4; whnf)
    refine call0 awake6 (by (repeat' (first | with_reducible assumption | exact ClL.nil | exact Cl.int _ _ | exact Cl.bool _ | exact Cl.bl _ | exact Cl.bs _ | exact Cl.str _ | exact Cl.nils | exact Cl.nilp | exact Cl.rec _ | exact Cl.bat _ | exact Cl.recsV _ | exact Cl.strsV _ | exact Cl.intsV _ | exact Cl.req _ | exact Cl.rsp _ | exact Cl.reqA _ | exact Cl.rspA _ | exact Cl.batsV _ | exact Cl.prsV _ | exact Cl.atsV _ | exact Cl.entA _ _ | exact Cl.foundA _ | exact Cl.getB _ | exact Cl.encA _ | exact Cl.firstA _ | refine ClL.cons ?_ ?_ | refine Cl.tup ?_ | refine Cl.agg ?_ | exact ClO.RO _ _))) (by (repeat' (first | with_reducible assumption | exact ClL.nil | exact Cl.int _ _ | exact Cl.bool _ | exact Cl.bl _ | exact Cl.bs _ | exact Cl.str _ | exact Cl.nils | exact Cl.nilp | exact Cl.rec _ | exact Cl.bat _ | exact Cl.recsV _ | exact Cl.strsV _ | exact Cl.intsV _ | exact Cl.req _ | exact Cl.rsp _ | exact Cl.reqA _ | exact Cl.rspA _ | exact Cl.batsV _ | exact Cl.prsV _ | exact Cl.atsV _ | exact Cl.entA _ _ | exact Cl.foundA _ | exact Cl.getB _ | exact Cl.encA _ | exact Cl.firstA _ | refine ClL.cons ?_ ?_ | refine Cl.tup ?_ | refine Cl.agg ?_ | exact ClO.RO _ _))) ?_
    (conv => arg 4; whnf); repeat (refine ⟨rfl, ?_⟩; conv => arg 4; whnf)
    exact .inl rfl
  · rw [← Bool.not_eq_true] at h; simp only [Bool.cond_true_left, Bool.cond_false_right, Bool.or_eq_true, Bool.and_eq_true, Bool.not_eq_true', decide_eq_true_eq, beq_iff_eq, bne_iff_ne, u8s_length, gt_iff_lt, ge_iff_le] at h
    (conv => arg 4; whnf); repeat (refine ⟨rfl, ?_⟩; conv => arg 4; whnf)
    refine call0 (ixBuild (p := p) (every := every) (by omega)) (by (repeat' (first | with_reducible assumption | exact ClL.nil | exact Cl.int _ _ | exact Cl.bool _ | exact Cl.bl _ | exact Cl.bs _ | exact Cl.str _ | exact Cl.nils | exact Cl.nilp | exact Cl.rec _ | exact Cl.bat _ | exact Cl.recsV _ | exact Cl.strsV _ | exact Cl.intsV _ | exact Cl.req _ | exact Cl.rsp _ | exact Cl.reqA _ | exact Cl.rspA _ | exact Cl.batsV _ | exact Cl.prsV _ | exact Cl.atsV _ | exact Cl.entA _ _ | exact Cl.foundA _ | exact Cl.getB _ | exact Cl.encA _ | exact Cl.firstA _ | refine ClL.cons ?_ ?_ | refine Cl.tup ?_ | refine Cl.agg ?_ | exact ClO.RO _ _))) (by (repeat' (first | with_reducible assumption | exact ClL.nil | exact Cl.int _ _ | exact Cl.bool _ | exact Cl.bl _ | exact Cl.bs _ | exact Cl.str _ | exact Cl.nils | exact Cl.nilp | exact Cl.rec _ | exact Cl.bat _ | exact Cl.recsV _ | exact Cl.strsV _ | exact Cl.intsV _ | exact Cl.req _ | exact Cl.rsp _ | exact Cl.reqA _ | exact Cl.rspA _ | exact Cl.batsV _ | exact Cl.prsV _ | exact Cl.atsV _ | exact Cl.entA _ _ | exact Cl.foundA _ | exact Cl.getB _ | exact Cl.encA _ | exact Cl.firstA _ | refine ClL.cons ?_ ?_ | refine Cl.tup ?_ | refine Cl.agg ?_ | exact ClO.RO _ _))) ?_
    (conv => arg 4; whnf); repeat (refine ⟨rfl, ?_⟩; conv => arg 4; whnf)
    refine call0 (refAll (p := p) (by omega)) (by (repeat' (first | with_reducible assumption | exact ClL.nil | exact Cl.int _ _ | exact Cl.bool _ | exact Cl.bl _ | exact Cl.bs _ | exact Cl.str _ | exact Cl.nils | exact Cl.nilp | exact Cl.rec _ | exact Cl.bat _ | exact Cl.recsV _ | exact Cl.strsV _ | exact Cl.intsV _ | exact Cl.req _ | exact Cl.rsp _ | exact Cl.reqA _ | exact Cl.rspA _ | exact Cl.batsV _ | exact Cl.prsV _ | exact Cl.atsV _ | exact Cl.entA _ _ | exact Cl.foundA _ | exact Cl.getB _ | exact Cl.encA _ | exact Cl.firstA _ | refine ClL.cons ?_ ?_ | refine Cl.tup ?_ | refine Cl.agg ?_ | exact ClO.RO _ _))) (by (repeat' (first | with_reducible assumption | exact ClL.nil | exact Cl.int _ _ | exact Cl.bool _ | exact Cl.bl _ | exact Cl.bs _ | exact Cl.str _ | exact Cl.nils | exact Cl.nilp | exact Cl.rec _ | exact Cl.bat _ | exact Cl.recsV _ | exact Cl.strsV _ | exact Cl.intsV _ | exact Cl.req _ | exact Cl.rsp _ | exact Cl.reqA _ | exact Cl.rspA _ | exact Cl.batsV _ | exact Cl.prsV _ | exact Cl.atsV _ | exact Cl.entA _ _ | exact Cl.foundA _ | exact Cl.getB _ | exact Cl.encA _ | exact Cl.firstA _ | refine ClL.cons ?_ ?_ | refine Cl.tup ?_ | refine Cl.agg ?_ | exact ClO.RO _ _))) ?_
    (conv => arg 4; whnf); repeat (refine ⟨rfl, ?_⟩; conv => arg 4; whnf)
    have hev : max every 1 = every := by omega
    refine tri_loopG (ι := SpI p every) (fun a => ⟨[(8, .int .i64 a.i), (7, .int .i64 a.last), (6, atsV (allP p 0 (-1))), (5, prsV ((bldP p every).map eO)), (1, .int .i64 every)], [], 0, 90⟩) (fun a => (bldP p every).length - a.i) ⟨0, 0, Nat.zero_le _, by omega, bld_apart _ _ _ _⟩ (WkG.of rfl rfl ⟨Le.refl _ _, Le.refl _ _, Le.refl _ _, Le.refl _ _, Le.refl _ _, trivial⟩ trivial ⟨rfl, rfl, Cl.atsV _ _, Cl.prsV _ _, rfl, trivial⟩ trivial) ?_
    rintro ⟨i, last, hi, hlast, hap⟩
    dsimp only
    have hbl := bldP_len p every
    have hal := allP_len p 0 (-1)
    conv => arg 4; whnf
    refine ⟨fun h1 => ?_, fun h1 => ?_⟩
    · have h1 : i < (bldP p every).length := by rw [prs_length, List.length_map] at h1; simp at h1; omega
      obtain ⟨t, ht⟩ : ∃ t, (bldP p every)[i]? = some t := ⟨_, List.getElem?_eq_getElem h1⟩
      have hte : ((bldP p every).map eO)[i]? = some (eO t) := by rw [List.getElem?_map, ht]; rfl
      rw [drop_get ht, Apart] at hap
      obtain ⟨z, hz, e1, e2⟩ := bld_mem t (List.mem_of_getElem? ht)
      have hzp := allP_place p 0 (-1) z hz
      (conv => arg 4; whnf); repeat (refine ⟨rfl, ?_⟩; conv => arg 4; whnf)
      refine tri_loopG (ι := MtI p) (fun a => ⟨[(10, .int .i64 a.k), (9, .bool (mets ((allP p 0 (-1)).take a.k) (eO t))), (8, .int .i64 i), (7, .int .i64 last), (6, atsV (allP p 0 (-1))), (5, prsV ((bldP p every).map eO)), (1, .int .i64 every)], [], 0, 90⟩) (fun a => (allP p 0 (-1)).length - a.k) ⟨0, Nat.zero_le _⟩ (WkG.of rfl rfl ⟨Le.refl _ _, Le.bl, Le.refl _ _, Le.refl _ _, Le.refl _ _, Le.refl _ _, Le.refl _ _, trivial⟩ trivial ⟨rfl, rfl, rfl, rfl, Cl.atsV _ _, Cl.prsV _ _, rfl, trivial⟩ trivial) ?_
      rintro ⟨k, hk⟩
      dsimp only
      conv => arg 4; whnf
      refine ⟨fun h2 => ?_, fun h2 => ?_⟩
      · have h2 : k < (allP p 0 (-1)).length := by rw [ats_length] at h2; simp at h2; omega
        obtain ⟨x, hx⟩ : ∃ x, (allP p 0 (-1))[k]? = some x := ⟨_, List.getElem?_eq_getElem h2⟩
        (conv => arg 4; whnf); repeat (refine ⟨rfl, ?_⟩; conv => arg 4; whnf)
        refine ⟨fun h3 => ?_, fun h3 => ?_⟩
        · (conv => arg 4; whnf); repeat (refine ⟨rfl, ?_⟩; conv => arg 4; whnf)
          exact ⟨⟨k + 1, by omega⟩, by show (allP p 0 (-1)).length - (k + 1) < (allP p 0 (-1)).length - k; omega, WkG.of rfl rfl ⟨Le.of_eq (succ_i64 (by omega)), Le.blOf (by rw [mets_take hx, h3]; rfl), Le.refl _ _, Le.refl _ _, Le.refl _ _, Le.refl _ _, Le.refl _ _, trivial⟩ trivial ⟨rfl, rfl, rfl, rfl, Cl.atsV _ _, Cl.prsV _ _, rfl, trivial⟩ trivial⟩
        · (conv => arg 4; whnf); repeat (refine ⟨rfl, ?_⟩; conv => arg 4; whnf)
          refine ⟨atA x, ⟨by omega, ats_get hx⟩, ?_⟩
          (conv => arg 4; whnf); repeat (refine ⟨rfl, ?_⟩; conv => arg 4; whnf)
          refine ⟨prA (eO t), ⟨by omega, prs_get hte⟩, ?_⟩
          (conv => arg 4; whnf); repeat (refine ⟨rfl, ?_⟩; conv => arg 4; whnf)
          refine ⟨fun h4 => ?_, fun h4 => ?_⟩
          · have h4 : (x.1 : Int) = t.1 := by simpa [eO] using h4
            (conv => arg 4; whnf); repeat (refine ⟨rfl, ?_⟩; conv => arg 4; whnf)
            refine ⟨atA x, ⟨by omega, ats_get hx⟩, ?_⟩
            (conv => arg 4; whnf); repeat (refine ⟨rfl, ?_⟩; conv => arg 4; whnf)
            refine ⟨prA (eO t), ⟨by omega, prs_get hte⟩, ?_⟩
            (conv => arg 4; whnf); repeat (refine ⟨rfl, ?_⟩; conv => arg 4; whnf)
            exact ⟨⟨k + 1, by omega⟩, by show (allP p 0 (-1)).length - (k + 1) < (allP p 0 (-1)).length - k; omega, WkG.of rfl rfl ⟨Le.of_eq (succ_i64 (by omega)), Le.of_eq (congrArg AV.bool (by rw [mets_take hx, h3]; simp only [Bool.false_or, eO, h4, decide_true, Bool.true_and]; by_cases h5 : x.2.base = t.2.1 <;> simp [h5])), Le.refl _ _, Le.refl _ _, Le.refl _ _, Le.refl _ _, Le.refl _ _, trivial⟩ trivial ⟨rfl, rfl, rfl, rfl, Cl.atsV _ _, Cl.prsV _ _, rfl, trivial⟩ trivial⟩
          · have h4 : ¬ (x.1 : Int) = t.1 := by simpa [eO] using h4
            (conv => arg 4; whnf); repeat (refine ⟨rfl, ?_⟩; conv => arg 4; whnf)
            exact ⟨⟨k + 1, by omega⟩, by show (allP p 0 (-1)).length - (k + 1) < (allP p 0 (-1)).length - k; omega, WkG.of rfl rfl ⟨Le.of_eq (succ_i64 (by omega)), Le.blOf (by rw [mets_take hx, h3]; simp [eO, h4]), Le.refl _ _, Le.refl _ _, Le.refl _ _, Le.refl _ _, Le.refl _ _, trivial⟩ trivial ⟨rfl, rfl, rfl, rfl, Cl.atsV _ _, Cl.prsV _ _, rfl, trivial⟩ trivial⟩
      · have h2 : k = (allP p 0 (-1)).length := by rw [ats_length] at h2; simp at h2; omega
        subst h2
        conv => arg 4; whnf
        refine fin_exit ?_
        show holds _ _ _ _
        conv => arg 4; whnf
        refine ⟨prA (eO t), ctxP_of ⟨by omega, prs_get hte⟩, ?_⟩
        (conv => arg 4; whnf); repeat (refine ⟨rfl, ?_⟩; conv => arg 4; whnf)
        have hmet : mets (allP p 0 (-1)) (eO t) = true := by
          unfold mets
          rw [List.any_eq_true]
          exact ⟨z, hz, by simp [eO, e1, e2]⟩
        have hlt : IntKind.i64.wrap ((eO t).2 - last) = t.1 - last := by
          rw [IntKind.wrap_i64]
          show (t.1 - last + 9223372036854775808) % 18446744073709551616 - 9223372036854775808 = t.1 - last
          omega
        have hcc : (bif !mets ((allP p 0 (-1)).take (allP p 0 (-1)).length) (eO t) then true else decide (IntKind.i64.wrap ((eO t).2 - last) < every)) = false := by
          rw [List.take_length, hmet, hlt]
          simp
          omega
        refine ⟨fun h' => absurd (hcc.symm.trans h') (by decide), fun _ => ?_⟩
        (conv => arg 4; whnf); repeat (refine ⟨rfl, ?_⟩; conv => arg 4; whnf)
        refine ⟨prA (eO t), ⟨by omega, prs_get hte⟩, ?_⟩
        (conv => arg 4; whnf); repeat (refine ⟨rfl, ?_⟩; conv => arg 4; whnf)
        exact ⟨⟨i + 1, t.1, by omega, by omega, hap.2⟩, by show (bldP p every).length - (i + 1) < (bldP p every).length - i; omega, WkG.of rfl rfl ⟨Le.of_eq (succ_i64 (by omega)), Le.refl _ _, Le.refl _ _, Le.refl _ _, Le.refl _ _, trivial⟩ trivial ⟨rfl, rfl, Cl.atsV _ _, Cl.prsV _ _, rfl, trivial⟩ trivial⟩
    · have h1 : i = (bldP p every).length := by rw [prs_length, List.length_map] at h1; simp at h1; omega
      conv => arg 4; whnf
      refine fin_exit ?_
      show holds _ _ _ _
      conv => arg 4; whnf
      refine ⟨fun _ => ?_, fun h' => absurd h' (by rw [prs_length, ats_length, List.length_map]; have := bld_len (allP p 0 (-1)) (max every 1) 0 0; unfold bldP; simp; omega)⟩
      (conv => arg 4; whnf); repeat (refine ⟨rfl, ?_⟩; conv => arg 4; whnf)
      refine call0 awake6 (by (repeat' (first | with_reducible assumption | exact ClL.nil | exact Cl.int _ _ | exact Cl.bool _ | exact Cl.bl _ | exact Cl.bs _ | exact Cl.str _ | exact Cl.nils | exact Cl.nilp | exact Cl.rec _ | exact Cl.bat _ | exact Cl.recsV _ | exact Cl.strsV _ | exact Cl.intsV _ | exact Cl.req _ | exact Cl.rsp _ | exact Cl.reqA _ | exact Cl.rspA _ | exact Cl.batsV _ | exact Cl.prsV _ | exact Cl.atsV _ | exact Cl.entA _ _ | exact Cl.foundA _ | exact Cl.getB _ | exact Cl.encA _ | exact Cl.firstA _ | refine ClL.cons ?_ ?_ | refine Cl.tup ?_ | refine Cl.agg ?_ | exact ClO.RO _ _))) (by (repeat' (first | with_reducible assumption | exact ClL.nil | exact Cl.int _ _ | exact Cl.bool _ | exact Cl.bl _ | exact Cl.bs _ | exact Cl.str _ | exact Cl.nils | exact Cl.nilp | exact Cl.rec _ | exact Cl.bat _ | exact Cl.recsV _ | exact Cl.strsV _ | exact Cl.intsV _ | exact Cl.req _ | exact Cl.rsp _ | exact Cl.reqA _ | exact Cl.rspA _ | exact Cl.batsV _ | exact Cl.prsV _ | exact Cl.atsV _ | exact Cl.entA _ _ | exact Cl.foundA _ | exact Cl.getB _ | exact Cl.encA _ | exact Cl.firstA _ | refine ClL.cons ?_ ?_ | refine Cl.tup ?_ | refine Cl.agg ?_ | exact ClO.RO _ _))) ?_
      (conv => arg 4; whnf); repeat (refine ⟨rfl, ?_⟩; conv => arg 4; whnf)
      exact .inl rfl

theorem lawAsks {p : List UInt8} {every off : Int} {l : List (Int × Int)} {b : List UInt8} (hl : l.length ≤ 1000000000000000) (hint : Ints l) : CallOK Try.prog 16 [bs p, .int .i64 every, prsV l, .int .i64 off, bs b] [] 0 Tru := by
  refine callOK Try.call16 Try.func16 Try.ntmps16 rfl ?_
  conv => arg 4; whnf
  refine ⟨fun h => ?_, fun h => ?_⟩
  · (conv => arg 4; whnf); repeat (refine ⟨rfl, ?_⟩; conv => arg 4; whnf)
    refine call0 awake6 (by (repeat' (first | with_reducible assumption | exact ClL.nil | exact Cl.int _ _ | exact Cl.bool _ | exact Cl.bl _ | exact Cl.bs _ | exact Cl.str _ | exact Cl.nils | exact Cl.nilp | exact Cl.rec _ | exact Cl.bat _ | exact Cl.recsV _ | exact Cl.strsV _ | exact Cl.intsV _ | exact Cl.req _ | exact Cl.rsp _ | exact Cl.reqA _ | exact Cl.rspA _ | exact Cl.batsV _ | exact Cl.prsV _ | exact Cl.atsV _ | exact Cl.entA _ _ | exact Cl.foundA _ | exact Cl.getB _ | exact Cl.encA _ | exact Cl.firstA _ | refine ClL.cons ?_ ?_ | refine Cl.tup ?_ | refine Cl.agg ?_ | exact ClO.RO _ _))) (by (repeat' (first | with_reducible assumption | exact ClL.nil | exact Cl.int _ _ | exact Cl.bool _ | exact Cl.bl _ | exact Cl.bs _ | exact Cl.str _ | exact Cl.nils | exact Cl.nilp | exact Cl.rec _ | exact Cl.bat _ | exact Cl.recsV _ | exact Cl.strsV _ | exact Cl.intsV _ | exact Cl.req _ | exact Cl.rsp _ | exact Cl.reqA _ | exact Cl.rspA _ | exact Cl.batsV _ | exact Cl.prsV _ | exact Cl.atsV _ | exact Cl.entA _ _ | exact Cl.foundA _ | exact Cl.getB _ | exact Cl.encA _ | exact Cl.firstA _ | refine ClL.cons ?_ ?_ | refine Cl.tup ?_ | refine Cl.agg ?_ | exact ClO.RO _ _))) ?_
    (conv => arg 4; whnf); repeat (refine ⟨rfl, ?_⟩; conv => arg 4; whnf)
    exact .inl rfl
  · rw [← Bool.not_eq_true] at h; simp only [Bool.cond_true_left, Bool.cond_false_right, Bool.or_eq_true, Bool.and_eq_true, Bool.not_eq_true', decide_eq_true_eq, beq_iff_eq, bne_iff_ne, u8s_length, gt_iff_lt, ge_iff_le] at h
    rw [prs_length] at h
    (conv => arg 4; whnf); repeat (refine ⟨rfl, ?_⟩; conv => arg 4; whnf)
    refine call0 (refBuild (p := p) (every := every) (by omega)) (by (repeat' (first | with_reducible assumption | exact ClL.nil | exact Cl.int _ _ | exact Cl.bool _ | exact Cl.bl _ | exact Cl.bs _ | exact Cl.str _ | exact Cl.nils | exact Cl.nilp | exact Cl.rec _ | exact Cl.bat _ | exact Cl.recsV _ | exact Cl.strsV _ | exact Cl.intsV _ | exact Cl.req _ | exact Cl.rsp _ | exact Cl.reqA _ | exact Cl.rspA _ | exact Cl.batsV _ | exact Cl.prsV _ | exact Cl.atsV _ | exact Cl.entA _ _ | exact Cl.foundA _ | exact Cl.getB _ | exact Cl.encA _ | exact Cl.firstA _ | refine ClL.cons ?_ ?_ | refine Cl.tup ?_ | refine Cl.agg ?_ | exact ClO.RO _ _))) (by (repeat' (first | with_reducible assumption | exact ClL.nil | exact Cl.int _ _ | exact Cl.bool _ | exact Cl.bl _ | exact Cl.bs _ | exact Cl.str _ | exact Cl.nils | exact Cl.nilp | exact Cl.rec _ | exact Cl.bat _ | exact Cl.recsV _ | exact Cl.strsV _ | exact Cl.intsV _ | exact Cl.req _ | exact Cl.rsp _ | exact Cl.reqA _ | exact Cl.rspA _ | exact Cl.batsV _ | exact Cl.prsV _ | exact Cl.atsV _ | exact Cl.entA _ _ | exact Cl.foundA _ | exact Cl.getB _ | exact Cl.encA _ | exact Cl.firstA _ | refine ClL.cons ?_ ?_ | refine Cl.tup ?_ | refine Cl.agg ?_ | exact ClO.RO _ _))) ?_
    (conv => arg 4; whnf); repeat (refine ⟨rfl, ?_⟩; conv => arg 4; whnf)
    refine call0 (made6 (l := l) (by omega)) (ClL.cons (Cl.prsV _) ClL.nil) (Cl.prsV _) ?_
    (conv => arg 4; whnf); repeat (refine ⟨rfl, ?_⟩; conv => arg 4; whnf)
    refine call0 (ixEnc (l := l) (by omega) hint) (ClL.cons (Cl.prsV _) ClL.nil) (Cl.entA _ _) ?_
    (conv => arg 4; whnf); repeat (refine ⟨rfl, ?_⟩; conv => arg 4; whnf)
    refine call0 (refEncE (l := l) (by omega) hint) (ClL.cons (Cl.prsV _) (ClL.cons (Cl.bl _) ClL.nil)) (Cl.entA _ _) ?_
    (conv => arg 4; whnf); repeat (refine ⟨rfl, ?_⟩; conv => arg 4; whnf)
    refine call0 (ixDec (p := b) (by omega)) (by (repeat' (first | with_reducible assumption | exact ClL.nil | exact Cl.int _ _ | exact Cl.bool _ | exact Cl.bl _ | exact Cl.bs _ | exact Cl.str _ | exact Cl.nils | exact Cl.nilp | exact Cl.rec _ | exact Cl.bat _ | exact Cl.recsV _ | exact Cl.strsV _ | exact Cl.intsV _ | exact Cl.req _ | exact Cl.rsp _ | exact Cl.reqA _ | exact Cl.rspA _ | exact Cl.batsV _ | exact Cl.prsV _ | exact Cl.atsV _ | exact Cl.entA _ _ | exact Cl.foundA _ | exact Cl.getB _ | exact Cl.encA _ | exact Cl.firstA _ | refine ClL.cons ?_ ?_ | refine Cl.tup ?_ | refine Cl.agg ?_ | exact ClO.RO _ _))) (Cl.decA _ _) ?_
    (conv => arg 4; whnf); repeat (refine ⟨rfl, ?_⟩; conv => arg 4; whnf)
    refine call0 (refDecE (p := b) (by omega)) (by (repeat' (first | with_reducible assumption | exact ClL.nil | exact Cl.int _ _ | exact Cl.bool _ | exact Cl.bl _ | exact Cl.bs _ | exact Cl.str _ | exact Cl.nils | exact Cl.nilp | exact Cl.rec _ | exact Cl.bat _ | exact Cl.recsV _ | exact Cl.strsV _ | exact Cl.intsV _ | exact Cl.req _ | exact Cl.rsp _ | exact Cl.reqA _ | exact Cl.rspA _ | exact Cl.batsV _ | exact Cl.prsV _ | exact Cl.atsV _ | exact Cl.entA _ _ | exact Cl.foundA _ | exact Cl.getB _ | exact Cl.encA _ | exact Cl.firstA _ | refine ClL.cons ?_ ?_ | refine Cl.tup ?_ | refine Cl.agg ?_ | exact ClO.RO _ _))) (Cl.decA _ _) ?_
    (conv => arg 4; whnf); repeat (refine ⟨rfl, ?_⟩; conv => arg 4; whnf)
    refine call0 (made6 (l := l) (by omega)) (ClL.cons (Cl.prsV _) ClL.nil) (Cl.prsV _) ?_
    (conv => arg 4; whnf); repeat (refine ⟨rfl, ?_⟩; conv => arg 4; whnf)
    refine call0 (ixSeek (p := p) (l := l) (off := off) (by omega) (by omega)) (ClL.cons (Cl.bs _) (ClL.cons (Cl.prsV _) (ClL.cons (Cl.int _ _) ClL.nil))) (by (repeat' (first | with_reducible assumption | exact ClL.nil | exact Cl.int _ _ | exact Cl.bool _ | exact Cl.bl _ | exact Cl.bs _ | exact Cl.str _ | exact Cl.nils | exact Cl.nilp | exact Cl.rec _ | exact Cl.bat _ | exact Cl.recsV _ | exact Cl.strsV _ | exact Cl.intsV _ | exact Cl.req _ | exact Cl.rsp _ | exact Cl.reqA _ | exact Cl.rspA _ | exact Cl.batsV _ | exact Cl.prsV _ | exact Cl.atsV _ | exact Cl.entA _ _ | exact Cl.foundA _ | exact Cl.getB _ | exact Cl.encA _ | exact Cl.firstA _ | refine ClL.cons ?_ ?_ | refine Cl.tup ?_ | refine Cl.agg ?_ | exact ClO.RO _ _))) ?_
    (conv => arg 4; whnf); repeat (refine ⟨rfl, ?_⟩; conv => arg 4; whnf)
    refine call0 (refSeek (p := p) (l := l) (off := off) (by omega) (by omega)) (ClL.cons (Cl.bs _) (ClL.cons (Cl.prsV _) (ClL.cons (Cl.int _ _) ClL.nil))) (by (repeat' (first | with_reducible assumption | exact ClL.nil | exact Cl.int _ _ | exact Cl.bool _ | exact Cl.bl _ | exact Cl.bs _ | exact Cl.str _ | exact Cl.nils | exact Cl.nilp | exact Cl.rec _ | exact Cl.bat _ | exact Cl.recsV _ | exact Cl.strsV _ | exact Cl.intsV _ | exact Cl.req _ | exact Cl.rsp _ | exact Cl.reqA _ | exact Cl.rspA _ | exact Cl.batsV _ | exact Cl.prsV _ | exact Cl.atsV _ | exact Cl.entA _ _ | exact Cl.foundA _ | exact Cl.getB _ | exact Cl.encA _ | exact Cl.firstA _ | refine ClL.cons ?_ ?_ | refine Cl.tup ?_ | refine Cl.agg ?_ | exact ClO.RO _ _))) ?_
    (conv => arg 4; whnf); repeat (refine ⟨rfl, ?_⟩; conv => arg 4; whnf)
    refine call0 (ixBuild (p := p) (every := every) (by omega)) (by (repeat' (first | with_reducible assumption | exact ClL.nil | exact Cl.int _ _ | exact Cl.bool _ | exact Cl.bl _ | exact Cl.bs _ | exact Cl.str _ | exact Cl.nils | exact Cl.nilp | exact Cl.rec _ | exact Cl.bat _ | exact Cl.recsV _ | exact Cl.strsV _ | exact Cl.intsV _ | exact Cl.req _ | exact Cl.rsp _ | exact Cl.reqA _ | exact Cl.rspA _ | exact Cl.batsV _ | exact Cl.prsV _ | exact Cl.atsV _ | exact Cl.entA _ _ | exact Cl.foundA _ | exact Cl.getB _ | exact Cl.encA _ | exact Cl.firstA _ | refine ClL.cons ?_ ?_ | refine Cl.tup ?_ | refine Cl.agg ?_ | exact ClO.RO _ _))) (by (repeat' (first | with_reducible assumption | exact ClL.nil | exact Cl.int _ _ | exact Cl.bool _ | exact Cl.bl _ | exact Cl.bs _ | exact Cl.str _ | exact Cl.nils | exact Cl.nilp | exact Cl.rec _ | exact Cl.bat _ | exact Cl.recsV _ | exact Cl.strsV _ | exact Cl.intsV _ | exact Cl.req _ | exact Cl.rsp _ | exact Cl.reqA _ | exact Cl.rspA _ | exact Cl.batsV _ | exact Cl.prsV _ | exact Cl.atsV _ | exact Cl.entA _ _ | exact Cl.foundA _ | exact Cl.getB _ | exact Cl.encA _ | exact Cl.firstA _ | refine ClL.cons ?_ ?_ | refine Cl.tup ?_ | refine Cl.agg ?_ | exact ClO.RO _ _))) ?_
    (conv => arg 4; whnf); repeat (refine ⟨rfl, ?_⟩; conv => arg 4; whnf)
    refine call0 (same6 (a := (bldP p every).map eO) (b := (bldP p every).map eO) (by rw [List.length_map]; have := bldP_len p every; omega)) (ClL.cons (Cl.prsV _) (ClL.cons (Cl.prsV _) ClL.nil)) (by (repeat' (first | with_reducible assumption | exact ClL.nil | exact Cl.int _ _ | exact Cl.bool _ | exact Cl.bl _ | exact Cl.bs _ | exact Cl.str _ | exact Cl.nils | exact Cl.nilp | exact Cl.rec _ | exact Cl.bat _ | exact Cl.recsV _ | exact Cl.strsV _ | exact Cl.intsV _ | exact Cl.req _ | exact Cl.rsp _ | exact Cl.reqA _ | exact Cl.rspA _ | exact Cl.batsV _ | exact Cl.prsV _ | exact Cl.atsV _ | exact Cl.entA _ _ | exact Cl.foundA _ | exact Cl.getB _ | exact Cl.encA _ | exact Cl.firstA _ | refine ClL.cons ?_ ?_ | refine Cl.tup ?_ | refine Cl.agg ?_ | exact ClO.RO _ _))) ?_
    (conv => arg 4; whnf); repeat (refine ⟨rfl, ?_⟩; conv => arg 4; whnf)
    refine ⟨fun _ => ?_, fun h' => absurd h' (by simp)⟩
    (conv => arg 4; whnf); repeat (refine ⟨rfl, ?_⟩; conv => arg 4; whnf)
    refine call0 (made6 (l := l) (by omega)) (ClL.cons (Cl.prsV _) ClL.nil) (Cl.prsV _) ?_
    (conv => arg 4; whnf); repeat (refine ⟨rfl, ?_⟩; conv => arg 4; whnf)
    refine call0 (ixLkO (l := l) (off := off) (by omega)) (ClL.cons (Cl.prsV _) (ClL.cons (Cl.int _ _) ClL.nil)) (by (repeat' (first | with_reducible assumption | exact ClL.nil | exact Cl.int _ _ | exact Cl.bool _ | exact Cl.bl _ | exact Cl.bs _ | exact Cl.str _ | exact Cl.nils | exact Cl.nilp | exact Cl.rec _ | exact Cl.bat _ | exact Cl.recsV _ | exact Cl.strsV _ | exact Cl.intsV _ | exact Cl.req _ | exact Cl.rsp _ | exact Cl.reqA _ | exact Cl.rspA _ | exact Cl.batsV _ | exact Cl.prsV _ | exact Cl.atsV _ | exact Cl.entA _ _ | exact Cl.foundA _ | exact Cl.getB _ | exact Cl.encA _ | exact Cl.firstA _ | refine ClL.cons ?_ ?_ | refine Cl.tup ?_ | refine Cl.agg ?_ | exact ClO.RO _ _))) ?_
    (conv => arg 4; whnf); repeat (refine ⟨rfl, ?_⟩; conv => arg 4; whnf)
    refine call0 (refLkO (l := l) (off := off) (by omega)) (ClL.cons (Cl.prsV _) (ClL.cons (Cl.int _ _) ClL.nil)) (by (repeat' (first | with_reducible assumption | exact ClL.nil | exact Cl.int _ _ | exact Cl.bool _ | exact Cl.bl _ | exact Cl.bs _ | exact Cl.str _ | exact Cl.nils | exact Cl.nilp | exact Cl.rec _ | exact Cl.bat _ | exact Cl.recsV _ | exact Cl.strsV _ | exact Cl.intsV _ | exact Cl.req _ | exact Cl.rsp _ | exact Cl.reqA _ | exact Cl.rspA _ | exact Cl.batsV _ | exact Cl.prsV _ | exact Cl.atsV _ | exact Cl.entA _ _ | exact Cl.foundA _ | exact Cl.getB _ | exact Cl.encA _ | exact Cl.firstA _ | refine ClL.cons ?_ ?_ | refine Cl.tup ?_ | refine Cl.agg ?_ | exact ClO.RO _ _))) ?_
    (conv => arg 4; whnf); repeat (refine ⟨rfl, ?_⟩; conv => arg 4; whnf)
    refine ⟨entO false l, ctxP_of rfl, ?_⟩
    (conv => arg 4; whnf); repeat (refine ⟨rfl, ?_⟩; conv => arg 4; whnf)
    refine ⟨entO false l, ctxP_of rfl, ?_⟩
    (conv => arg 4; whnf); repeat (refine ⟨rfl, ?_⟩; conv => arg 4; whnf)
    refine ⟨fun _ => ?_, fun h' => absurd h' (by simp)⟩
    (conv => arg 4; whnf); repeat (refine ⟨rfl, ?_⟩; conv => arg 4; whnf)
    refine call0 (same6 (a := decL false b) (b := decL false b) (by have := decL_len false b; omega)) (ClL.cons (Cl.prsV _) (ClL.cons (Cl.prsV _) ClL.nil)) (by (repeat' (first | with_reducible assumption | exact ClL.nil | exact Cl.int _ _ | exact Cl.bool _ | exact Cl.bl _ | exact Cl.bs _ | exact Cl.str _ | exact Cl.nils | exact Cl.nilp | exact Cl.rec _ | exact Cl.bat _ | exact Cl.recsV _ | exact Cl.strsV _ | exact Cl.intsV _ | exact Cl.req _ | exact Cl.rsp _ | exact Cl.reqA _ | exact Cl.rspA _ | exact Cl.batsV _ | exact Cl.prsV _ | exact Cl.atsV _ | exact Cl.entA _ _ | exact Cl.foundA _ | exact Cl.getB _ | exact Cl.encA _ | exact Cl.firstA _ | refine ClL.cons ?_ ?_ | refine Cl.tup ?_ | refine Cl.agg ?_ | exact ClO.RO _ _))) ?_
    (conv => arg 4; whnf); repeat (refine ⟨rfl, ?_⟩; conv => arg 4; whnf)
    refine ⟨fun _ => ?_, fun h' => absurd h' (by simp)⟩
    (conv => arg 4; whnf); repeat (refine ⟨rfl, ?_⟩; conv => arg 4; whnf)
    refine call0 awake6 (by (repeat' (first | with_reducible assumption | exact ClL.nil | exact Cl.int _ _ | exact Cl.bool _ | exact Cl.bl _ | exact Cl.bs _ | exact Cl.str _ | exact Cl.nils | exact Cl.nilp | exact Cl.rec _ | exact Cl.bat _ | exact Cl.recsV _ | exact Cl.strsV _ | exact Cl.intsV _ | exact Cl.req _ | exact Cl.rsp _ | exact Cl.reqA _ | exact Cl.rspA _ | exact Cl.batsV _ | exact Cl.prsV _ | exact Cl.atsV _ | exact Cl.entA _ _ | exact Cl.foundA _ | exact Cl.getB _ | exact Cl.encA _ | exact Cl.firstA _ | refine ClL.cons ?_ ?_ | refine Cl.tup ?_ | refine Cl.agg ?_ | exact ClO.RO _ _))) (by (repeat' (first | with_reducible assumption | exact ClL.nil | exact Cl.int _ _ | exact Cl.bool _ | exact Cl.bl _ | exact Cl.bs _ | exact Cl.str _ | exact Cl.nils | exact Cl.nilp | exact Cl.rec _ | exact Cl.bat _ | exact Cl.recsV _ | exact Cl.strsV _ | exact Cl.intsV _ | exact Cl.req _ | exact Cl.rsp _ | exact Cl.reqA _ | exact Cl.rspA _ | exact Cl.batsV _ | exact Cl.prsV _ | exact Cl.atsV _ | exact Cl.entA _ _ | exact Cl.foundA _ | exact Cl.getB _ | exact Cl.encA _ | exact Cl.firstA _ | refine ClL.cons ?_ ?_ | refine Cl.tup ?_ | refine Cl.agg ?_ | exact ClO.RO _ _))) ?_
    (conv => arg 4; whnf); repeat (refine ⟨rfl, ?_⟩; conv => arg 4; whnf)
    exact .inl rfl

theorem lawSeeks {p : List UInt8} {every other off : Int} : CallOK Try.prog 17 [bs p, .int .i64 every, .int .i64 other, .int .i64 off] [] 0 Tru := by
  refine callOK Try.call17 Try.func17 Try.ntmps17 rfl ?_
  conv => arg 4; whnf
  refine ⟨fun h => ?_, fun h => ?_⟩
  · (conv => arg 4; whnf); repeat (refine ⟨rfl, ?_⟩; conv => arg 4; whnf)
    refine call0 awake6 (by (repeat' (first | with_reducible assumption | exact ClL.nil | exact Cl.int _ _ | exact Cl.bool _ | exact Cl.bl _ | exact Cl.bs _ | exact Cl.str _ | exact Cl.nils | exact Cl.nilp | exact Cl.rec _ | exact Cl.bat _ | exact Cl.recsV _ | exact Cl.strsV _ | exact Cl.intsV _ | exact Cl.req _ | exact Cl.rsp _ | exact Cl.reqA _ | exact Cl.rspA _ | exact Cl.batsV _ | exact Cl.prsV _ | exact Cl.atsV _ | exact Cl.entA _ _ | exact Cl.foundA _ | exact Cl.getB _ | exact Cl.encA _ | exact Cl.firstA _ | refine ClL.cons ?_ ?_ | refine Cl.tup ?_ | refine Cl.agg ?_ | exact ClO.RO _ _))) (by (repeat' (first | with_reducible assumption | exact ClL.nil | exact Cl.int _ _ | exact Cl.bool _ | exact Cl.bl _ | exact Cl.bs _ | exact Cl.str _ | exact Cl.nils | exact Cl.nilp | exact Cl.rec _ | exact Cl.bat _ | exact Cl.recsV _ | exact Cl.strsV _ | exact Cl.intsV _ | exact Cl.req _ | exact Cl.rsp _ | exact Cl.reqA _ | exact Cl.rspA _ | exact Cl.batsV _ | exact Cl.prsV _ | exact Cl.atsV _ | exact Cl.entA _ _ | exact Cl.foundA _ | exact Cl.getB _ | exact Cl.encA _ | exact Cl.firstA _ | refine ClL.cons ?_ ?_ | refine Cl.tup ?_ | refine Cl.agg ?_ | exact ClO.RO _ _))) ?_
    (conv => arg 4; whnf); repeat (refine ⟨rfl, ?_⟩; conv => arg 4; whnf)
    exact .inl rfl
  · rw [← Bool.not_eq_true] at h; simp only [Bool.cond_true_left, Bool.cond_false_right, Bool.or_eq_true, Bool.and_eq_true, Bool.not_eq_true', decide_eq_true_eq, beq_iff_eq, bne_iff_ne, u8s_length, gt_iff_lt, ge_iff_le] at h
    (conv => arg 4; whnf); repeat (refine ⟨rfl, ?_⟩; conv => arg 4; whnf)
    refine call0 (ixBuild (p := p) (every := every) (by omega)) (by (repeat' (first | with_reducible assumption | exact ClL.nil | exact Cl.int _ _ | exact Cl.bool _ | exact Cl.bl _ | exact Cl.bs _ | exact Cl.str _ | exact Cl.nils | exact Cl.nilp | exact Cl.rec _ | exact Cl.bat _ | exact Cl.recsV _ | exact Cl.strsV _ | exact Cl.intsV _ | exact Cl.req _ | exact Cl.rsp _ | exact Cl.reqA _ | exact Cl.rspA _ | exact Cl.batsV _ | exact Cl.prsV _ | exact Cl.atsV _ | exact Cl.entA _ _ | exact Cl.foundA _ | exact Cl.getB _ | exact Cl.encA _ | exact Cl.firstA _ | refine ClL.cons ?_ ?_ | refine Cl.tup ?_ | refine Cl.agg ?_ | exact ClO.RO _ _))) (by (repeat' (first | with_reducible assumption | exact ClL.nil | exact Cl.int _ _ | exact Cl.bool _ | exact Cl.bl _ | exact Cl.bs _ | exact Cl.str _ | exact Cl.nils | exact Cl.nilp | exact Cl.rec _ | exact Cl.bat _ | exact Cl.recsV _ | exact Cl.strsV _ | exact Cl.intsV _ | exact Cl.req _ | exact Cl.rsp _ | exact Cl.reqA _ | exact Cl.rspA _ | exact Cl.batsV _ | exact Cl.prsV _ | exact Cl.atsV _ | exact Cl.entA _ _ | exact Cl.foundA _ | exact Cl.getB _ | exact Cl.encA _ | exact Cl.firstA _ | refine ClL.cons ?_ ?_ | refine Cl.tup ?_ | refine Cl.agg ?_ | exact ClO.RO _ _))) ?_
    (conv => arg 4; whnf); repeat (refine ⟨rfl, ?_⟩; conv => arg 4; whnf)
    refine call0 (ixSeek (l := (bldP p every).map eO) (by omega) (by rw [List.length_map]; have := bldP_len p every; omega)) (ClL.cons (Cl.bs _) (ClL.cons (Cl.prsV _) (ClL.cons (Cl.int _ _) ClL.nil))) (by (repeat' (first | with_reducible assumption | exact ClL.nil | exact Cl.int _ _ | exact Cl.bool _ | exact Cl.bl _ | exact Cl.bs _ | exact Cl.str _ | exact Cl.nils | exact Cl.nilp | exact Cl.rec _ | exact Cl.bat _ | exact Cl.recsV _ | exact Cl.strsV _ | exact Cl.intsV _ | exact Cl.req _ | exact Cl.rsp _ | exact Cl.reqA _ | exact Cl.rspA _ | exact Cl.batsV _ | exact Cl.prsV _ | exact Cl.atsV _ | exact Cl.entA _ _ | exact Cl.foundA _ | exact Cl.getB _ | exact Cl.encA _ | exact Cl.firstA _ | refine ClL.cons ?_ ?_ | refine Cl.tup ?_ | refine Cl.agg ?_ | exact ClO.RO _ _))) ?_
    (conv => arg 4; whnf); repeat (refine ⟨rfl, ?_⟩; conv => arg 4; whnf)
    refine call0 (ixBuild (p := p) (every := other) (by omega)) (by (repeat' (first | with_reducible assumption | exact ClL.nil | exact Cl.int _ _ | exact Cl.bool _ | exact Cl.bl _ | exact Cl.bs _ | exact Cl.str _ | exact Cl.nils | exact Cl.nilp | exact Cl.rec _ | exact Cl.bat _ | exact Cl.recsV _ | exact Cl.strsV _ | exact Cl.intsV _ | exact Cl.req _ | exact Cl.rsp _ | exact Cl.reqA _ | exact Cl.rspA _ | exact Cl.batsV _ | exact Cl.prsV _ | exact Cl.atsV _ | exact Cl.entA _ _ | exact Cl.foundA _ | exact Cl.getB _ | exact Cl.encA _ | exact Cl.firstA _ | refine ClL.cons ?_ ?_ | refine Cl.tup ?_ | refine Cl.agg ?_ | exact ClO.RO _ _))) (by (repeat' (first | with_reducible assumption | exact ClL.nil | exact Cl.int _ _ | exact Cl.bool _ | exact Cl.bl _ | exact Cl.bs _ | exact Cl.str _ | exact Cl.nils | exact Cl.nilp | exact Cl.rec _ | exact Cl.bat _ | exact Cl.recsV _ | exact Cl.strsV _ | exact Cl.intsV _ | exact Cl.req _ | exact Cl.rsp _ | exact Cl.reqA _ | exact Cl.rspA _ | exact Cl.batsV _ | exact Cl.prsV _ | exact Cl.atsV _ | exact Cl.entA _ _ | exact Cl.foundA _ | exact Cl.getB _ | exact Cl.encA _ | exact Cl.firstA _ | refine ClL.cons ?_ ?_ | refine Cl.tup ?_ | refine Cl.agg ?_ | exact ClO.RO _ _))) ?_
    (conv => arg 4; whnf); repeat (refine ⟨rfl, ?_⟩; conv => arg 4; whnf)
    refine call0 (ixSeek (l := (bldP p other).map eO) (by omega) (by rw [List.length_map]; have := bldP_len p other; omega)) (ClL.cons (Cl.bs _) (ClL.cons (Cl.prsV _) (ClL.cons (Cl.int _ _) ClL.nil))) (by (repeat' (first | with_reducible assumption | exact ClL.nil | exact Cl.int _ _ | exact Cl.bool _ | exact Cl.bl _ | exact Cl.bs _ | exact Cl.str _ | exact Cl.nils | exact Cl.nilp | exact Cl.rec _ | exact Cl.bat _ | exact Cl.recsV _ | exact Cl.strsV _ | exact Cl.intsV _ | exact Cl.req _ | exact Cl.rsp _ | exact Cl.reqA _ | exact Cl.rspA _ | exact Cl.batsV _ | exact Cl.prsV _ | exact Cl.atsV _ | exact Cl.entA _ _ | exact Cl.foundA _ | exact Cl.getB _ | exact Cl.encA _ | exact Cl.firstA _ | refine ClL.cons ?_ ?_ | refine Cl.tup ?_ | refine Cl.agg ?_ | exact ClO.RO _ _))) ?_
    (conv => arg 4; whnf); repeat (refine ⟨rfl, ?_⟩; conv => arg 4; whnf)
    refine holds_args (args' := [bs p, prsV [], .int .i64 off]) ⟨Le.refl _ _, Le.nils, Le.refl _ _, trivial⟩ ?_
    refine call0 (ixSeek (p := p) (l := []) (off := off) (by omega) (by simp)) (ClL.cons (Cl.bs _) (ClL.cons (Cl.prsV _) (ClL.cons (Cl.int _ _) ClL.nil))) (by (repeat' (first | with_reducible assumption | exact ClL.nil | exact Cl.int _ _ | exact Cl.bool _ | exact Cl.bl _ | exact Cl.bs _ | exact Cl.str _ | exact Cl.nils | exact Cl.nilp | exact Cl.rec _ | exact Cl.bat _ | exact Cl.recsV _ | exact Cl.strsV _ | exact Cl.intsV _ | exact Cl.req _ | exact Cl.rsp _ | exact Cl.reqA _ | exact Cl.rspA _ | exact Cl.batsV _ | exact Cl.prsV _ | exact Cl.atsV _ | exact Cl.entA _ _ | exact Cl.foundA _ | exact Cl.getB _ | exact Cl.encA _ | exact Cl.firstA _ | refine ClL.cons ?_ ?_ | refine Cl.tup ?_ | refine Cl.agg ?_ | exact ClO.RO _ _))) ?_
    (conv => arg 4; whnf); repeat (refine ⟨rfl, ?_⟩; conv => arg 4; whnf)
    refine call0 (refAll (p := p) (by omega)) (by (repeat' (first | with_reducible assumption | exact ClL.nil | exact Cl.int _ _ | exact Cl.bool _ | exact Cl.bl _ | exact Cl.bs _ | exact Cl.str _ | exact Cl.nils | exact Cl.nilp | exact Cl.rec _ | exact Cl.bat _ | exact Cl.recsV _ | exact Cl.strsV _ | exact Cl.intsV _ | exact Cl.req _ | exact Cl.rsp _ | exact Cl.reqA _ | exact Cl.rspA _ | exact Cl.batsV _ | exact Cl.prsV _ | exact Cl.atsV _ | exact Cl.entA _ _ | exact Cl.foundA _ | exact Cl.getB _ | exact Cl.encA _ | exact Cl.firstA _ | refine ClL.cons ?_ ?_ | refine Cl.tup ?_ | refine Cl.agg ?_ | exact ClO.RO _ _))) (by (repeat' (first | with_reducible assumption | exact ClL.nil | exact Cl.int _ _ | exact Cl.bool _ | exact Cl.bl _ | exact Cl.bs _ | exact Cl.str _ | exact Cl.nils | exact Cl.nilp | exact Cl.rec _ | exact Cl.bat _ | exact Cl.recsV _ | exact Cl.strsV _ | exact Cl.intsV _ | exact Cl.req _ | exact Cl.rsp _ | exact Cl.reqA _ | exact Cl.rspA _ | exact Cl.batsV _ | exact Cl.prsV _ | exact Cl.atsV _ | exact Cl.entA _ _ | exact Cl.foundA _ | exact Cl.getB _ | exact Cl.encA _ | exact Cl.firstA _ | refine ClL.cons ?_ ?_ | refine Cl.tup ?_ | refine Cl.agg ?_ | exact ClO.RO _ _))) ?_
    (conv => arg 4; whnf); repeat (refine ⟨rfl, ?_⟩; conv => arg 4; whnf)
    have hal := allP_len p 0 (-1)
    refine tri_loopG (ι := SeI p off) (fun a => ⟨[(18, .int .i64 a.i), (17, .bool a.m), (16, .int .i64 a.w), (15, atsV (allP p 0 (-1))), (14, .bool (seekP p [] off).2), (13, .int .i64 (seekP p [] off).1), (12, .bool (seekP p ((bldP p other).map eO) off).2), (11, .int .i64 (seekP p ((bldP p other).map eO) off).1), (10, .bool (seekP p ((bldP p every).map eO) off).2), (9, .int .i64 (seekP p ((bldP p every).map eO) off).1), (3, .int .i64 off)], [], 0, 103⟩) (fun a => (allP p 0 (-1)).length - a.i) ⟨0, false, 0, Nat.zero_le _, .inl ⟨rfl, rfl, rfl⟩⟩ (WkG.of rfl rfl ⟨Le.refl _ _, Le.bl, Le.refl _ _, Le.refl _ _, Le.refl _ _, Le.refl _ _, Le.refl _ _, Le.refl _ _, Le.refl _ _, Le.refl _ _, Le.refl _ _, trivial⟩ trivial ⟨rfl, rfl, rfl, Cl.atsV _ _, rfl, rfl, rfl, rfl, rfl, rfl, rfl, trivial⟩ trivial) ?_
    rintro ⟨i, m, w, hi, hh⟩
    dsimp only
    conv => arg 4; whnf
    refine ⟨fun h1 => ?_, fun h1 => ?_⟩
    · rw [ats_length] at h1
      simp only [Bool.cond_true_left, Bool.cond_false_right, Bool.or_eq_true, Bool.and_eq_true, Bool.not_eq_true', decide_eq_true_eq, beq_iff_eq, bne_iff_ne, u8s_length, Bool.not_eq_true, gt_iff_lt, ge_iff_le] at h1
      obtain ⟨h3, rfl⟩ : i < (allP p 0 (-1)).length ∧ m = false := ⟨by omega, h1.2⟩
      obtain ⟨x, hx⟩ : ∃ x, (allP p 0 (-1))[i]? = some x := ⟨_, List.getElem?_eq_getElem h3⟩
      obtain ⟨-, rfl, hs⟩ := hh.resolve_right fun q => by cases q.1
      rw [drop_get hx, seekL_cons] at hs
      (conv => arg 4; whnf); repeat (refine ⟨rfl, ?_⟩; conv => arg 4; whnf)
      refine ⟨atA x, ⟨by omega, ats_get hx⟩, ?_⟩
      (conv => arg 4; whnf); repeat (refine ⟨rfl, ?_⟩; conv => arg 4; whnf)
      refine ⟨fun h2 => ?_, fun h2 => ?_⟩
      · have h2 : off ≤ x.2.last := by simpa using h2
        rw [if_pos ⟨by omega, h2⟩] at hs
        (conv => arg 4; whnf); repeat (refine ⟨rfl, ?_⟩; conv => arg 4; whnf)
        refine ⟨atA x, ⟨by omega, ats_get hx⟩, ?_⟩
        (conv => arg 4; whnf); repeat (refine ⟨rfl, ?_⟩; conv => arg 4; whnf)
        exact ⟨⟨i + 1, true, (x.1 : Int), by omega, .inr ⟨rfl, hs⟩⟩, by show (allP p 0 (-1)).length - (i + 1) < (allP p 0 (-1)).length - i; omega, WkG.of rfl rfl ⟨Le.of_eq (succ_i64 (by omega)), Le.bl, Le.refl _ _, Le.refl _ _, Le.refl _ _, Le.refl _ _, Le.refl _ _, Le.refl _ _, Le.refl _ _, Le.refl _ _, Le.refl _ _, trivial⟩ trivial ⟨rfl, rfl, rfl, Cl.atsV _ _, rfl, rfl, rfl, rfl, rfl, rfl, rfl, trivial⟩ trivial⟩
      · have h2 : ¬ off ≤ x.2.last := by simpa using h2
        rw [if_neg fun q => h2 q.2] at hs
        (conv => arg 4; whnf); repeat (refine ⟨rfl, ?_⟩; conv => arg 4; whnf)
        exact ⟨⟨i + 1, false, 0, by omega, .inl ⟨rfl, rfl, hs⟩⟩, by show (allP p 0 (-1)).length - (i + 1) < (allP p 0 (-1)).length - i; omega, WkG.of rfl rfl ⟨Le.of_eq (succ_i64 (by omega)), Le.refl _ _, Le.refl _ _, Le.refl _ _, Le.refl _ _, Le.refl _ _, Le.refl _ _, Le.refl _ _, Le.refl _ _, Le.refl _ _, Le.refl _ _, trivial⟩ trivial ⟨rfl, rfl, rfl, Cl.atsV _ _, rfl, rfl, rfl, rfl, rfl, rfl, rfl, trivial⟩ trivial⟩
    · have hend : seekL 0 off (allP p 0 (-1)) = (w, m) := by
        rw [ats_length] at h1
        rw [← Bool.not_eq_true] at h1; simp only [Bool.cond_true_left, Bool.cond_false_right, Bool.or_eq_true, Bool.and_eq_true, Bool.not_eq_true', decide_eq_true_eq, beq_iff_eq, bne_iff_ne, u8s_length, gt_iff_lt, ge_iff_le] at h1
        rcases hh with ⟨rfl, rfl, hh⟩ | ⟨rfl, hh⟩
        · have hi2 : i = (allP p 0 (-1)).length := by
            have : ¬ ((i : Int) < ((allP p 0 (-1)).length : Int)) := fun q => h1 ⟨q, rfl⟩
            omega
          rw [hh, hi2, List.drop_length]
          rfl
        · exact hh
      conv => arg 4; whnf
      refine fin_exit ?_
      show holds _ _ _ _
      conv => arg 4; whnf
      refine ⟨fun _ => ?_, fun h' => absurd h' (by rw [seek_own, seek_own, seek_nil, hend]; simp)⟩
      (conv => arg 4; whnf); repeat (refine ⟨rfl, ?_⟩; conv => arg 4; whnf)
      refine call0 awake6 (by (repeat' (first | with_reducible assumption | exact ClL.nil | exact Cl.int _ _ | exact Cl.bool _ | exact Cl.bl _ | exact Cl.bs _ | exact Cl.str _ | exact Cl.nils | exact Cl.nilp | exact Cl.rec _ | exact Cl.bat _ | exact Cl.recsV _ | exact Cl.strsV _ | exact Cl.intsV _ | exact Cl.req _ | exact Cl.rsp _ | exact Cl.reqA _ | exact Cl.rspA _ | exact Cl.batsV _ | exact Cl.prsV _ | exact Cl.atsV _ | exact Cl.entA _ _ | exact Cl.foundA _ | exact Cl.getB _ | exact Cl.encA _ | exact Cl.firstA _ | refine ClL.cons ?_ ?_ | refine Cl.tup ?_ | refine Cl.agg ?_ | exact ClO.RO _ _))) (by (repeat' (first | with_reducible assumption | exact ClL.nil | exact Cl.int _ _ | exact Cl.bool _ | exact Cl.bl _ | exact Cl.bs _ | exact Cl.str _ | exact Cl.nils | exact Cl.nilp | exact Cl.rec _ | exact Cl.bat _ | exact Cl.recsV _ | exact Cl.strsV _ | exact Cl.intsV _ | exact Cl.req _ | exact Cl.rsp _ | exact Cl.reqA _ | exact Cl.rspA _ | exact Cl.batsV _ | exact Cl.prsV _ | exact Cl.atsV _ | exact Cl.entA _ _ | exact Cl.foundA _ | exact Cl.getB _ | exact Cl.encA _ | exact Cl.firstA _ | refine ClL.cons ?_ ?_ | refine Cl.tup ?_ | refine Cl.agg ?_ | exact ClO.RO _ _))) ?_
      (conv => arg 4; whnf); repeat (refine ⟨rfl, ?_⟩; conv => arg 4; whnf)
      exact .inl rfl
end Go.Proofs.Ytejocegoockacaa.Ix

namespace Go.Proofs.Ytejocegoockacaa
set_option maxRecDepth 100000
set_option maxHeartbeats 80000000
open Go.Sym

def boolsL (l : List Bool) : List AV := l.map AV.bl
theorem ren_boolsL (ρ : Nat → Nat) (l : List Bool) : renL ρ (boolsL l) = boolsL l := by
  induction l with
  | nil => rfl
  | cons x l ih => show ren ρ (.bl x) :: renL ρ (boolsL l) = _; rw [ih]; rfl
theorem boolsL_get {l : List Bool} {i : Nat} {x : Bool} (h : l[i]? = some x) : (boolsL l)[((i : Nat) : Int).toNat]? = some (.bl x) := by simp [boolsL, h]
theorem Cl.boolsL (l : List Bool) : Cl (.sl .none 0 (boolsL l)) := Cl.sl (fun ρ => ren_boolsL ρ l)

theorem gaps_size {x y n : Nat} (h : x ≤ y + 9 * n) (hy : y ≤ 65536) (hn : n ≤ 1000) : decide ((x : Int) ≤ IntKind.i64.wrap ((y : Int) + IntKind.i64.wrap (9 * (n : Int)))) = true := by
  rw [IntKind.wrap_i64, IntKind.wrap_i64]
  simp only [decide_eq_true_eq]
  omega

structure GpI (b : Bat) (ks : List Bool) where
  i : Nat
  s : Nat
  hi : i ≤ b.recs.length

theorem lawGaps {b : Bat} {ks : List Bool} (hb : b.recs.length ≤ 1000000000000000) : CallOK Try.prog 10 [b.av, .sl .none 0 (boolsL ks)] [] 0 Tru := by
  refine callOK Try.call10 Try.func10 Try.ntmps10 rfl ?_
  conv => arg 4; whnf
  refine call0E (alikeBatch hb) (by (repeat' (first | with_reducible assumption | exact ClL.nil | exact Cl.int _ _ | exact Cl.bool _ | exact Cl.bl _ | exact Cl.bs _ | exact Cl.str _ | exact Cl.nils | exact Cl.nilp | exact Cl.rec _ | exact Cl.bat _ | exact Cl.recsV _ | exact Cl.strsV _ | exact Cl.intsV _ | exact Cl.req _ | exact Cl.rsp _ | exact Cl.reqA _ | exact Cl.rspA _ | exact Cl.batsV _ | exact Cl.getB _ | exact Cl.encA _ | exact Cl.firstA _ | refine ClL.cons ?_ ?_ | refine Cl.tup ?_ | refine Cl.agg ?_ | exact ClO.RO _ _))) (fun x => by (repeat' (first | with_reducible assumption | exact ClL.nil | exact Cl.int _ _ | exact Cl.bool _ | exact Cl.bl _ | exact Cl.bs _ | exact Cl.str _ | exact Cl.nils | exact Cl.nilp | exact Cl.rec _ | exact Cl.bat _ | exact Cl.recsV _ | exact Cl.strsV _ | exact Cl.intsV _ | exact Cl.req _ | exact Cl.rsp _ | exact Cl.reqA _ | exact Cl.rspA _ | exact Cl.batsV _ | exact Cl.getB _ | exact Cl.encA _ | exact Cl.firstA _ | refine ClL.cons ?_ ?_ | refine Cl.tup ?_ | refine Cl.agg ?_ | exact ClO.RO _ _))) fun n hn => ?_
  (conv => arg 4; whnf); repeat (refine ⟨rfl, ?_⟩; conv => arg 4; whnf)
  refine ⟨fun h => ?_, fun h => ?_⟩
  · (conv => arg 4; whnf); repeat (refine ⟨rfl, ?_⟩; conv => arg 4; whnf)
    refine call0 awake5 (by (repeat' (first | with_reducible assumption | exact ClL.nil | exact Cl.int _ _ | exact Cl.bool _ | exact Cl.bl _ | exact Cl.bs _ | exact Cl.str _ | exact Cl.nils | exact Cl.nilp | exact Cl.rec _ | exact Cl.bat _ | exact Cl.recsV _ | exact Cl.strsV _ | exact Cl.intsV _ | exact Cl.req _ | exact Cl.rsp _ | exact Cl.reqA _ | exact Cl.rspA _ | exact Cl.batsV _ | exact Cl.getB _ | exact Cl.encA _ | exact Cl.firstA _ | refine ClL.cons ?_ ?_ | refine Cl.tup ?_ | refine Cl.agg ?_ | exact ClO.RO _ _))) (by (repeat' (first | with_reducible assumption | exact ClL.nil | exact Cl.int _ _ | exact Cl.bool _ | exact Cl.bl _ | exact Cl.bs _ | exact Cl.str _ | exact Cl.nils | exact Cl.nilp | exact Cl.rec _ | exact Cl.bat _ | exact Cl.recsV _ | exact Cl.strsV _ | exact Cl.intsV _ | exact Cl.req _ | exact Cl.rsp _ | exact Cl.reqA _ | exact Cl.rspA _ | exact Cl.batsV _ | exact Cl.getB _ | exact Cl.encA _ | exact Cl.firstA _ | refine ClL.cons ?_ ?_ | refine Cl.tup ?_ | refine Cl.agg ?_ | exact ClO.RO _ _))) ?_
    (conv => arg 4; whnf); repeat (refine ⟨rfl, ?_⟩; conv => arg 4; whnf)
    exact .inl rfl
  · rw [recs_length] at h
    rw [← Bool.not_eq_true] at h; simp only [Bool.cond_true_left, Bool.cond_false_right, Bool.or_eq_true, Bool.and_eq_true, Bool.not_eq_true', decide_eq_true_eq, beq_iff_eq, bne_iff_ne, u8s_length, gt_iff_lt, ge_iff_le] at h
    have wb := weighs_le hn (by omega)
    have lb := wtR_length b.recs
    (conv => arg 4; whnf); repeat (refine ⟨rfl, ?_⟩; conv => arg 4; whnf)
    refine call0 (refCheck (by omega)) (by (repeat' (first | with_reducible assumption | exact ClL.nil | exact Cl.int _ _ | exact Cl.bool _ | exact Cl.bl _ | exact Cl.bs _ | exact Cl.str _ | exact Cl.nils | exact Cl.nilp | exact Cl.rec _ | exact Cl.bat _ | exact Cl.recsV _ | exact Cl.strsV _ | exact Cl.intsV _ | exact Cl.req _ | exact Cl.rsp _ | exact Cl.reqA _ | exact Cl.rspA _ | exact Cl.batsV _ | exact Cl.getB _ | exact Cl.encA _ | exact Cl.firstA _ | refine ClL.cons ?_ ?_ | refine Cl.tup ?_ | refine Cl.agg ?_ | exact ClO.RO _ _))) (by (repeat' (first | with_reducible assumption | exact ClL.nil | exact Cl.int _ _ | exact Cl.bool _ | exact Cl.bl _ | exact Cl.bs _ | exact Cl.str _ | exact Cl.nils | exact Cl.nilp | exact Cl.rec _ | exact Cl.bat _ | exact Cl.recsV _ | exact Cl.strsV _ | exact Cl.intsV _ | exact Cl.req _ | exact Cl.rsp _ | exact Cl.reqA _ | exact Cl.rspA _ | exact Cl.batsV _ | exact Cl.getB _ | exact Cl.encA _ | exact Cl.firstA _ | refine ClL.cons ?_ ?_ | refine Cl.tup ?_ | refine Cl.agg ?_ | exact ClO.RO _ _))) ?_
    (conv => arg 4; whnf); repeat (refine ⟨rfl, ?_⟩; conv => arg 4; whnf)
    refine ⟨fun hc => ?_, fun hc => ?_⟩
    · (conv => arg 4; whnf); repeat (refine ⟨rfl, ?_⟩; conv => arg 4; whnf)
      refine call0 awake5 (by (repeat' (first | with_reducible assumption | exact ClL.nil | exact Cl.int _ _ | exact Cl.bool _ | exact Cl.bl _ | exact Cl.bs _ | exact Cl.str _ | exact Cl.nils | exact Cl.nilp | exact Cl.rec _ | exact Cl.bat _ | exact Cl.recsV _ | exact Cl.strsV _ | exact Cl.intsV _ | exact Cl.req _ | exact Cl.rsp _ | exact Cl.reqA _ | exact Cl.rspA _ | exact Cl.batsV _ | exact Cl.getB _ | exact Cl.encA _ | exact Cl.firstA _ | refine ClL.cons ?_ ?_ | refine Cl.tup ?_ | refine Cl.agg ?_ | exact ClO.RO _ _))) (by (repeat' (first | with_reducible assumption | exact ClL.nil | exact Cl.int _ _ | exact Cl.bool _ | exact Cl.bl _ | exact Cl.bs _ | exact Cl.str _ | exact Cl.nils | exact Cl.nilp | exact Cl.rec _ | exact Cl.bat _ | exact Cl.recsV _ | exact Cl.strsV _ | exact Cl.intsV _ | exact Cl.req _ | exact Cl.rsp _ | exact Cl.reqA _ | exact Cl.rspA _ | exact Cl.batsV _ | exact Cl.getB _ | exact Cl.encA _ | exact Cl.firstA _ | refine ClL.cons ?_ ?_ | refine Cl.tup ?_ | refine Cl.agg ?_ | exact ClO.RO _ _))) ?_
      (conv => arg 4; whnf); repeat (refine ⟨rfl, ?_⟩; conv => arg 4; whnf)
      exact .inl rfl
    · have hc : b.chk = 0 := by simpa using hc
      (conv => arg 4; whnf); repeat (refine ⟨rfl, ?_⟩; conv => arg 4; whnf)
      refine tri_loopG (ι := GpI b ks) (fun a => ⟨[(6, .int .i64 a.i), (5, .ptr 1 0), (2, .ptr 0 0), (1, .sl .none 0 (boolsL ks))], [(2, .tip a.s), (1, .cells [.int .i64 b.base, .int .i64 b.last, .int .i64 b.prod, .int .i64 b.epoch, .int .i64 b.seq, .sl (.tok 2 a.s) 6 (recsL (kept (b.recs.take a.i) ks))]), (0, batO b)], 3, 114⟩) (fun a => b.recs.length - a.i) ⟨0, 0, Nat.zero_le _⟩ (WkG.tok rfl rfl ⟨Le.refl _ _, Le.refl _ _, Le.refl _ _, Le.refl _ _, trivial⟩ ⟨⟨_, rfl, rfl⟩, ⟨_, rfl, LeL.cons (Le.refl _ _) (LeL.cons (Le.refl _ _) (LeL.cons (Le.refl _ _) (LeL.cons (Le.refl _ _) (LeL.cons (Le.refl _ _) (LeL.cons (Le.nilsTok rfl) (LeL.nil _))))))⟩, ⟨_, rfl, LeO.refl _ _⟩, trivial⟩ ⟨rfl, rfl, rfl, Cl.boolsL ks _, trivial⟩ ⟨⟨by decide, rfl⟩, ⟨by decide, rfl⟩, ⟨by decide, renO_batO _ _⟩, trivial⟩) ?_
      rintro ⟨i, s, hi⟩
      dsimp only
      conv => arg 4; whnf
      refine ⟨fun hlt => ?_, fun hlt => ?_⟩
      · have hlt : i < b.recs.length := by rw [recs_length] at hlt; simp at hlt; omega
        obtain ⟨x, hx⟩ : ∃ x, b.recs[i]? = some x := ⟨_, List.getElem?_eq_getElem hlt⟩
        have hg := recs_get hx
        have hkt := kept_take (ks := ks) hx
        (conv => arg 4; whnf); repeat (refine ⟨rfl, ?_⟩; conv => arg 4; whnf)
        refine ⟨.bl (ks[i]?.getD false), fun (h : decide ((i : Int) < ((boolsL ks).length : Int)) = true) => ⟨by omega, ?_⟩, ?_⟩
        · have h : i < ks.length := by simp [boolsL] at h; omega
          obtain ⟨k, hk⟩ : ∃ k, ks[i]? = some k := ⟨_, List.getElem?_eq_getElem h⟩
          rw [hk]; exact boolsL_get hk
        conv => arg 4; whnf
        refine ⟨fun hk => ?_, fun hk => ?_⟩
        · have hk : ks[i]? = some true := by
            have hl : i < ks.length := by
              rcases Nat.lt_or_ge i ks.length with h | h
              · exact h
              · have : ¬ ((i : Int) < ((boolsL ks).length : Int)) := by simp [boolsL]; omega
                simp [this] at hk
            obtain ⟨k, hk'⟩ : ∃ k, ks[i]? = some k := ⟨_, List.getElem?_eq_getElem hl⟩
            rw [hk'] at hk ⊢
            cases k with
            | true => rfl
            | false => simp at hk
          rw [if_pos hk] at hkt
          (conv => arg 4; whnf); repeat (refine ⟨rfl, ?_⟩; conv => arg 4; whnf)
          refine ⟨x.av, ⟨by omega, hg⟩, ?_⟩
          (conv => arg 4; whnf); repeat (refine ⟨rfl, ?_⟩; conv => arg 4; whnf)
          refine ⟨⟨rfl, sizeOk 80 rfl ?_⟩, ?_⟩
          · have := (kept_sub (b.recs.take i) ks).length_le
            rw [List.length_append, recs_length]; simp only [List.length_cons, List.length_nil, List.length_take] at this ⊢; omega
          (conv => arg 4; whnf); repeat (refine ⟨rfl, ?_⟩; conv => arg 4; whnf)
          refine ⟨⟨i + 1, s + 1, by omega⟩, by show b.recs.length - (i + 1) < b.recs.length - i; omega, WkG.of rfl rfl ⟨Le.of_eq (succ_i64 (by omega)), Le.refl _ _, Le.refl _ _, Le.refl _ _, trivial⟩ ⟨⟨_, rfl, LeO.refl _ _⟩, ⟨_, rfl, ?_⟩, ⟨_, rfl, LeO.refl _ _⟩, trivial⟩ ⟨rfl, rfl, rfl, Cl.boolsL ks _, trivial⟩ ⟨⟨by decide, rfl⟩, ⟨by decide, ?_⟩, ⟨by decide, renO_batO _ _⟩, trivial⟩⟩
          · have e : recsL (kept (b.recs.take i) ks ++ [x]) = recsL (kept (b.recs.take i) ks) ++ [x.av] := by simp [recsL]
            rw [hkt, e]; exact LeL.refl _ _
          · simp only [renO, renL, ren, ren_recs, renP, cut_lt (show 2 < 3 by decide)]
        · have hk : ¬ ks[i]? = some true := fun h => by
            have hl : i < ks.length := by
              rcases Nat.lt_or_ge i ks.length with h' | h'
              · exact h'
              · rw [List.getElem?_eq_none h'] at h; cases h
            have : ((i : Int) < ((boolsL ks).length : Int)) := by simp [boolsL]; omega
            rw [h] at hk
            simp [this] at hk
          rw [if_neg hk, List.append_nil] at hkt
          conv => arg 4; whnf
          refine ⟨⟨i + 1, s, by omega⟩, by show b.recs.length - (i + 1) < b.recs.length - i; omega, WkG.of rfl rfl ⟨Le.of_eq (succ_i64 (by omega)), Le.refl _ _, Le.refl _ _, Le.refl _ _, trivial⟩ ⟨⟨_, rfl, LeO.refl _ _⟩, ⟨_, rfl, ?_⟩, ⟨_, rfl, LeO.refl _ _⟩, trivial⟩ ⟨rfl, rfl, rfl, Cl.boolsL ks _, trivial⟩ ⟨⟨by decide, rfl⟩, ⟨by decide, ?_⟩, ⟨by decide, renO_batO _ _⟩, trivial⟩⟩
          · rw [hkt]; exact LeL.refl _ _
          · simp only [renO, renL, ren, ren_recs, renP, cut_lt (show 2 < 3 by decide)]
      · have hlt : i = b.recs.length := by rw [recs_length] at hlt; simp at hlt; omega
        subst hlt
        conv => arg 4; whnf
        refine fin_exit ?_
        show holds _ _ _ _
        conv => arg 4; whnf
        rw [List.take_length]
        obtain ⟨c, hcc⟩ : ∃ c : Bat, c = ⟨b.base, b.last, b.prod, b.epoch, b.seq, kept b.recs ks⟩ := ⟨_, rfl⟩
        have hsub : c.recs.Sublist b.recs := by rw [hcc]; exact kept_sub _ _
        have hsl := hsub.length_le
        have hav : ∀ h, Le h (.agg [.int .i64 b.base, .int .i64 b.last, .int .i64 b.prod, .int .i64 b.epoch, .int .i64 b.seq, .sl (.tok 2 s) 6 (recsL (kept b.recs ks))]) c.av := fun h => by rw [hcc]; show Le _ _ (.agg _); (repeat' (first | with_reducible exact Le.refl _ _ | exact Le.bl | exact Le.lb | exact Le.nils | exact Le.nilsFull | exact Le.none | exact LeL.nil _ | refine LeL.cons ?_ ?_ | refine Le.tup ?_ | refine Le.agg ?_ | exact Le.refl _ _ | exact LeL.refl _ _))
        have hck := chk_sub hc (by omega) (c := c) (by rw [hcc]) (by rw [hcc]) (by rw [hcc]) (by rw [hcc]) (by rw [hcc]) hsub
        have hcd := dec_is hck.1
        conv => arg 4; whnf
        refine holds_args (args' := [c.av]) ⟨hav _, trivial⟩ ?_
        refine call0 (batEnc (by omega)) (by (repeat' (first | with_reducible assumption | exact ClL.nil | exact Cl.int _ _ | exact Cl.bool _ | exact Cl.bl _ | exact Cl.bs _ | exact Cl.str _ | exact Cl.nils | exact Cl.nilp | exact Cl.rec _ | exact Cl.bat _ | exact Cl.recsV _ | exact Cl.strsV _ | exact Cl.intsV _ | exact Cl.req _ | exact Cl.rsp _ | exact Cl.reqA _ | exact Cl.rspA _ | exact Cl.batsV _ | exact Cl.getB _ | exact Cl.encA _ | exact Cl.firstA _ | refine ClL.cons ?_ ?_ | refine Cl.tup ?_ | refine Cl.agg ?_ | exact ClO.RO _ _))) (Cl.encA c) ?_
        rw [encA_yes hck.1]
        (conv => arg 4; whnf); repeat (refine ⟨rfl, ?_⟩; conv => arg 4; whnf)
        refine call0 (batDecode (p := c.enc) (by have := (chk_fine hck.1).2.1; omega)) (by (repeat' (first | with_reducible assumption | exact ClL.nil | exact Cl.int _ _ | exact Cl.bool _ | exact Cl.bl _ | exact Cl.bs _ | exact Cl.str _ | exact Cl.nils | exact Cl.nilp | exact Cl.rec _ | exact Cl.bat _ | exact Cl.recsV _ | exact Cl.strsV _ | exact Cl.intsV _ | exact Cl.req _ | exact Cl.rsp _ | exact Cl.reqA _ | exact Cl.rspA _ | exact Cl.batsV _ | exact Cl.getB _ | exact Cl.encA _ | exact Cl.firstA _ | refine ClL.cons ?_ ?_ | refine Cl.tup ?_ | refine Cl.agg ?_ | exact ClO.RO _ _))) (by (repeat' (first | with_reducible assumption | exact ClL.nil | exact Cl.int _ _ | exact Cl.bool _ | exact Cl.bl _ | exact Cl.bs _ | exact Cl.str _ | exact Cl.nils | exact Cl.nilp | exact Cl.rec _ | exact Cl.bat _ | exact Cl.recsV _ | exact Cl.strsV _ | exact Cl.intsV _ | exact Cl.req _ | exact Cl.rsp _ | exact Cl.reqA _ | exact Cl.rspA _ | exact Cl.batsV _ | exact Cl.getB _ | exact Cl.encA _ | exact Cl.firstA _ | refine ClL.cons ?_ ?_ | refine Cl.tup ?_ | refine Cl.agg ?_ | exact ClO.RO _ _))) ?_
        rw [hcd.1, hcd.2]
        (conv => arg 4; whnf); repeat (refine ⟨rfl, ?_⟩; conv => arg 4; whnf)
        refine ⟨fun _ => ?_, fun h => absurd h (by first | (simp; done) | (simp [u8s]; done))⟩
        conv => arg 4; whnf
        refine ⟨fun _ => ?_, fun h => absurd h (by first | (simp; done) | (simp [u8s]; done))⟩
        conv => arg 4; whnf
        refine holds_args (args' := [c.av, c.av]) ⟨hav _, Le.refl _ _, trivial⟩ ?_
        refine call0 (batSame (a := c) (b := c) (by omega)) (by (repeat' (first | with_reducible assumption | exact ClL.nil | exact Cl.int _ _ | exact Cl.bool _ | exact Cl.bl _ | exact Cl.bs _ | exact Cl.str _ | exact Cl.nils | exact Cl.nilp | exact Cl.rec _ | exact Cl.bat _ | exact Cl.recsV _ | exact Cl.strsV _ | exact Cl.intsV _ | exact Cl.req _ | exact Cl.rsp _ | exact Cl.reqA _ | exact Cl.rspA _ | exact Cl.batsV _ | exact Cl.getB _ | exact Cl.encA _ | exact Cl.firstA _ | refine ClL.cons ?_ ?_ | refine Cl.tup ?_ | refine Cl.agg ?_ | exact ClO.RO _ _))) (by (repeat' (first | with_reducible assumption | exact ClL.nil | exact Cl.int _ _ | exact Cl.bool _ | exact Cl.bl _ | exact Cl.bs _ | exact Cl.str _ | exact Cl.nils | exact Cl.nilp | exact Cl.rec _ | exact Cl.bat _ | exact Cl.recsV _ | exact Cl.strsV _ | exact Cl.intsV _ | exact Cl.req _ | exact Cl.rsp _ | exact Cl.reqA _ | exact Cl.rspA _ | exact Cl.batsV _ | exact Cl.getB _ | exact Cl.encA _ | exact Cl.firstA _ | refine ClL.cons ?_ ?_ | refine Cl.tup ?_ | refine Cl.agg ?_ | exact ClO.RO _ _))) ?_
        (conv => arg 4; whnf); repeat (refine ⟨rfl, ?_⟩; conv => arg 4; whnf)
        refine ⟨fun _ => ?_, fun h => absurd h (by first | (simp; done) | (simp [u8s]; done))⟩
        conv => arg 4; whnf
        have q1 : (c.base == b.base) = true := by rw [hcc]; simp
        refine ⟨fun _ => ?_, fun h' => absurd (q1.symm.trans h') (by decide)⟩
        (conv => arg 4; whnf); repeat (refine ⟨rfl, ?_⟩; conv => arg 4; whnf)
        have q2 : (c.last == b.last) = true := by rw [hcc]; simp
        refine ⟨fun _ => ?_, fun h' => absurd (q2.symm.trans h') (by decide)⟩
        (conv => arg 4; whnf); repeat (refine ⟨rfl, ?_⟩; conv => arg 4; whnf)
        have q3 : (((recsL c.recs).length : Int) == ((recsL (kept b.recs ks)).length : Int)) = true := by rw [hcc]; simp
        refine ⟨fun _ => ?_, fun h' => absurd (q3.symm.trans h') (by decide)⟩
        (conv => arg 4; whnf); repeat (refine ⟨rfl, ?_⟩; conv => arg 4; whnf)
        refine holds_args (args' := [c.av]) ⟨hav _, trivial⟩ ?_
        refine call0 (batSize (b := c) (by omega)) (by (repeat' (first | with_reducible assumption | exact ClL.nil | exact Cl.int _ _ | exact Cl.bool _ | exact Cl.bl _ | exact Cl.bs _ | exact Cl.str _ | exact Cl.nils | exact Cl.nilp | exact Cl.rec _ | exact Cl.bat _ | exact Cl.recsV _ | exact Cl.strsV _ | exact Cl.intsV _ | exact Cl.req _ | exact Cl.rsp _ | exact Cl.reqA _ | exact Cl.rspA _ | exact Cl.batsV _ | exact Cl.getB _ | exact Cl.encA _ | exact Cl.firstA _ | refine ClL.cons ?_ ?_ | refine Cl.tup ?_ | refine Cl.agg ?_ | exact ClO.RO _ _))) (by (repeat' (first | with_reducible assumption | exact ClL.nil | exact Cl.int _ _ | exact Cl.bool _ | exact Cl.bl _ | exact Cl.bs _ | exact Cl.str _ | exact Cl.nils | exact Cl.nilp | exact Cl.rec _ | exact Cl.bat _ | exact Cl.recsV _ | exact Cl.strsV _ | exact Cl.intsV _ | exact Cl.req _ | exact Cl.rsp _ | exact Cl.reqA _ | exact Cl.rspA _ | exact Cl.batsV _ | exact Cl.getB _ | exact Cl.encA _ | exact Cl.firstA _ | refine ClL.cons ?_ ?_ | refine Cl.tup ?_ | refine Cl.agg ?_ | exact ClO.RO _ _))) ?_
        (conv => arg 4; whnf); repeat (refine ⟨rfl, ?_⟩; conv => arg 4; whnf)
        refine call0 (batSize (b := b) (by omega)) (by (repeat' (first | with_reducible assumption | exact ClL.nil | exact Cl.int _ _ | exact Cl.bool _ | exact Cl.bl _ | exact Cl.bs _ | exact Cl.str _ | exact Cl.nils | exact Cl.nilp | exact Cl.rec _ | exact Cl.bat _ | exact Cl.recsV _ | exact Cl.strsV _ | exact Cl.intsV _ | exact Cl.req _ | exact Cl.rsp _ | exact Cl.reqA _ | exact Cl.rspA _ | exact Cl.batsV _ | exact Cl.getB _ | exact Cl.encA _ | exact Cl.firstA _ | refine ClL.cons ?_ ?_ | refine Cl.tup ?_ | refine Cl.agg ?_ | exact ClO.RO _ _))) (by (repeat' (first | with_reducible assumption | exact ClL.nil | exact Cl.int _ _ | exact Cl.bool _ | exact Cl.bl _ | exact Cl.bs _ | exact Cl.str _ | exact Cl.nils | exact Cl.nilp | exact Cl.rec _ | exact Cl.bat _ | exact Cl.recsV _ | exact Cl.strsV _ | exact Cl.intsV _ | exact Cl.req _ | exact Cl.rsp _ | exact Cl.reqA _ | exact Cl.rspA _ | exact Cl.batsV _ | exact Cl.getB _ | exact Cl.encA _ | exact Cl.firstA _ | refine ClL.cons ?_ ?_ | refine Cl.tup ?_ | refine Cl.agg ?_ | exact ClO.RO _ _))) ?_
        (conv => arg 4; whnf); repeat (refine ⟨rfl, ?_⟩; conv => arg 4; whnf)
        have q4 : decide ((c.out.length : Int) ≤ IntKind.i64.wrap ((b.out.length : Int) + IntKind.i64.wrap (9 * ((recsL b.recs).length : Int)))) = true := by
          have l1 := (chk_fine hc).2.1
          have l2 := hck.2
          have l3 := (chk_fine hc).1.few
          rw [out_yes hck.1, out_yes hc, recs_length]
          exact gaps_size l2 l1 (by omega)
        refine ⟨fun _ => ?_, fun h' => absurd (q4.symm.trans h') (by decide)⟩
        (conv => arg 4; whnf); repeat (refine ⟨rfl, ?_⟩; conv => arg 4; whnf)
        refine call0 awake5 (by (repeat' (first | with_reducible assumption | exact ClL.nil | exact Cl.int _ _ | exact Cl.bool _ | exact Cl.bl _ | exact Cl.bs _ | exact Cl.str _ | exact Cl.nils | exact Cl.nilp | exact Cl.rec _ | exact Cl.bat _ | exact Cl.recsV _ | exact Cl.strsV _ | exact Cl.intsV _ | exact Cl.req _ | exact Cl.rsp _ | exact Cl.reqA _ | exact Cl.rspA _ | exact Cl.batsV _ | exact Cl.getB _ | exact Cl.encA _ | exact Cl.firstA _ | refine ClL.cons ?_ ?_ | refine Cl.tup ?_ | refine Cl.agg ?_ | exact ClO.RO _ _))) (by (repeat' (first | with_reducible assumption | exact ClL.nil | exact Cl.int _ _ | exact Cl.bool _ | exact Cl.bl _ | exact Cl.bs _ | exact Cl.str _ | exact Cl.nils | exact Cl.nilp | exact Cl.rec _ | exact Cl.bat _ | exact Cl.recsV _ | exact Cl.strsV _ | exact Cl.intsV _ | exact Cl.req _ | exact Cl.rsp _ | exact Cl.reqA _ | exact Cl.rspA _ | exact Cl.batsV _ | exact Cl.getB _ | exact Cl.encA _ | exact Cl.firstA _ | refine ClL.cons ?_ ?_ | refine Cl.tup ?_ | refine Cl.agg ?_ | exact ClO.RO _ _))) ?_
        (conv => arg 4; whnf); repeat (refine ⟨rfl, ?_⟩; conv => arg 4; whnf)
        exact .inl rfl
end Go.Proofs.Ytejocegoockacaa

namespace Go.Proofs.Ytejocegoockacaa
set_option maxRecDepth 100000
set_option maxHeartbeats 80000000
open Go.Sym

theorem inv0 (W : World) : Inv (F0 W) V0 [] W :=
  ⟨fun b o x h => h, fun id o hg => by simp [Go.Sym.get] at hg, fun id o b off hg => by simp [Go.Sym.get] at hg, fun id id' o o' b hg => by simp [Go.Sym.get] at hg⟩

theorem bytes_lt {els : List AV} {n : Nat} (h : els.length * n ≤ reachBytes) (hn : 1 ≤ n) : els.length ≤ 1000000000000000 := by
  have : els.length * 1 ≤ els.length * n := Nat.mul_le_mul_left _ hn
  unfold reachBytes at h
  omega

theorem recs_of {els : List AV} (h : ∀ x ∈ els, ∃ m cs, isElem 6 x cs ∧ Sym.Good Try.prog m 78 cs) : ∃ l : List Rec, l.length = els.length ∧ LeL [] els (recsL l) := by
  induction els with
  | nil => exact ⟨[], rfl, LeL.refl _ _⟩
  | cons x els ih =>
    obtain ⟨l, hl, hle⟩ := ih fun y hy => h y (List.mem_cons_of_mem _ hy)
    obtain ⟨m, cs, he, g⟩ := h x List.mem_cons_self
    obtain ⟨m, g⟩ := Sym.Good.struct Try.underlying78 (by kernel_rfl) g
    obtain ⟨_, _, rfl, g1, _, _, rfl, g2, _, _, rfl, g3, _, _, rfl, g4, _, _, rfl, g5, _, _, rfl, g6, rfl⟩ := g
    obtain ⟨x1, rfl, w1⟩ := Sym.Good.int Try.underlying3 g1
    obtain ⟨x2, rfl, w2⟩ := Sym.Good.int Try.underlying3 g2
    obtain ⟨x3, rfl⟩ := Sym.Good.bool Try.underlying4 g3
    obtain ⟨e4, rfl, z4, q4⟩ := Sym.Good.slice (k := 0) Try.underlying25 (by kernel_rfl) (by kernel_rfl) g4
    obtain ⟨x5, rfl⟩ := Sym.Good.bool Try.underlying4 g5
    obtain ⟨e6, rfl, z6, q6⟩ := Sym.Good.slice (k := 0) Try.underlying25 (by kernel_rfl) (by kernel_rfl) g6
    obtain ⟨l4, rfl⟩ := bytes_of Try.underlying5 q4
    obtain ⟨l6, rfl⟩ := bytes_of Try.underlying5 q6
    refine ⟨⟨x1, x2, x3, l4, x5, l6⟩ :: l, by simp [hl], ?_⟩
    simp only [isElem] at he
    rw [if_neg (by decide)] at he
    subst he
    exact LeL.cons (Le.agg (LeL.cons (Le.refl _ _) (LeL.cons (Le.refl _ _) (LeL.cons Le.bl (LeL.cons (Le.refl _ _) (LeL.cons Le.bl (LeL.cons (Le.refl _ _) (LeL.nil _)))))))) hle

theorem bat_of {n : Nat} {l : List AV} (g : Sym.Good Try.prog n 58 l) : ∃ b : Bat, b.recs.length ≤ 1000000000000000 ∧ Le [] (.agg l) b.av := by
  obtain ⟨m, g⟩ := Sym.Good.struct Try.underlying58 (by kernel_rfl) g
  obtain ⟨_, _, rfl, g1, _, _, rfl, g2, _, _, rfl, g3, _, _, rfl, g4, _, _, rfl, g5, _, _, rfl, g6, rfl⟩ := g
  obtain ⟨x1, rfl, w1⟩ := Sym.Good.int Try.underlying3 g1
  obtain ⟨x2, rfl, w2⟩ := Sym.Good.int Try.underlying3 g2
  obtain ⟨x3, rfl, w3⟩ := Sym.Good.int Try.underlying3 g3
  obtain ⟨x4, rfl, w4⟩ := Sym.Good.int Try.underlying3 g4
  obtain ⟨x5, rfl, w5⟩ := Sym.Good.int Try.underlying3 g5
  obtain ⟨e6, rfl, z6, q6⟩ := Sym.Good.slice (k := 6) Try.underlying56 (by kernel_rfl) (by kernel_rfl) g6
  obtain ⟨r, hl, hle⟩ := recs_of q6
  have hz := bytes_lt z6 (of_decide_eq_true (by kernel_rfl))
  refine ⟨⟨x1, x2, x3, x4, x5, r⟩, by simp only; omega, ?_⟩
  exact Le.agg (LeL.cons (Le.refl _ _) (LeL.cons (Le.refl _ _) (LeL.cons (Le.refl _ _) (LeL.cons (Le.refl _ _) (LeL.cons (Le.refl _ _) (LeL.cons (Le.slL hle fun h => List.eq_nil_of_length_eq_zero (by have := congrArg List.length h; simp only [List.length_nil] at this; simp only [recsL, List.length_map]; omega)) (LeL.nil _)))))))

theorem bools_of {t : TypeId} {els : List AV} (hu : Try.prog.underlying t = some .bool) (h : ∀ x ∈ els, ∃ m cs, isElem 0 x cs ∧ Sym.Good Try.prog m t cs) : ∃ l : List Bool, els = boolsL l := by
  induction els with
  | nil => exact ⟨[], rfl⟩
  | cons x els ih =>
    obtain ⟨l, rfl⟩ := ih fun y hy => h y (List.mem_cons_of_mem _ hy)
    obtain ⟨m, cs, he, g⟩ := h x List.mem_cons_self
    obtain ⟨z, rfl⟩ := Sym.Good.bool hu g
    simp only [isElem, if_true, List.cons.injEq, and_true] at he
    subst he
    exact ⟨z :: l, rfl⟩
end Go.Proofs.Ytejocegoockacaa

namespace Go.Proofs.Ytejocegoockacaa.Ix
set_option maxRecDepth 100000
set_option maxHeartbeats 80000000
open Go.Sym

theorem prs_of {els : List AV} (h : ∀ x ∈ els, ∃ m cs, isElem 2 x cs ∧ Sym.Good Try.prog m 150 cs) : ∃ l : List (Int × Int), els = prsL l ∧ Ints l := by
  induction els with
  | nil => exact ⟨[], rfl, fun x hx => by cases hx⟩
  | cons x els ih =>
    obtain ⟨l, rfl, hl⟩ := ih fun y hy => h y (List.mem_cons_of_mem _ hy)
    obtain ⟨m, cs, he, g⟩ := h x List.mem_cons_self
    obtain ⟨m, g⟩ := Sym.Good.struct Try.underlying150 (by kernel_rfl) g
    obtain ⟨_, _, rfl, g1, _, _, rfl, g2, rfl⟩ := g
    obtain ⟨x1, rfl, w1⟩ := Sym.Good.int Try.underlying3 g1
    obtain ⟨x2, rfl, w2⟩ := Sym.Good.int Try.underlying3 g2
    refine ⟨(x1, x2) :: l, ?_, ?_⟩
    · simp only [isElem] at he
      rw [if_neg (by decide)] at he
      rw [he]; rfl
    · intro y hy
      rcases List.mem_cons.1 hy with rfl | hy
      · exact ⟨i64_of w1, i64_of w2⟩
      · exact hl y hy
end Go.Proofs.Ytejocegoockacaa.Ix
