/-
  The law of limits.
-/
import Derived.Test.YthclmkhkchbpiaaTxt4
set_option linter.unusedVariables false
set_option linter.unusedSimpArgs false
namespace Go.Proofs.Ythclmkhkchbpiaa
set_option maxRecDepth 100000
set_option maxHeartbeats 80000000
open Go.Sym

def limR (n : Nat) : List Rec := (List.range n).map fun (k : Nat) => (⟨(k : Int), 0, false, [], false, []⟩ : Rec)

theorem limR_succ (n : Nat) : limR (n + 1) = limR n ++ [⟨n, 0, false, [], false, []⟩] := by simp [limR, List.range_succ]

theorem LeL.app {h : Heap} {a b c d : List AV} (h1 : LeL h a b) (h2 : LeL h c d) (hl : a.length = b.length := by rfl) : LeL h (a ++ c) (b ++ d) := fun F V w x i r => by
  have e1 := r.length
  have hx : x = x.take a.length ++ x.drop a.length := (List.take_append_drop _ _).symm
  rw [List.length_append] at e1
  have r1 := r.take a.length
  have r2 := r.drop a.length
  rw [List.take_left] at r1
  rw [List.drop_left] at r2
  rw [hx]
  exact (h1 F V w _ i r1).append (h2 F V w _ i r2)
theorem Le.slT {h : Heap} {p : Perm} {k : Nat} {l m : List AV} (e : LeL h l m) (hn : l = [] → m = [] := by simp) : Le h (.sl p k l) (.sl p k m) := fun F V w x i r => by
  simp only [rep] at r ⊢
  rcases r with ⟨b, o, cap, vs, h1, h2, h3, h4, h5⟩ | ⟨h1, h2, h3⟩
  · exact .inl ⟨b, o, cap, vs, h1, e F V w vs i h2, h3, h4, h5⟩
  · exact .inr ⟨hn h1, h2, h3⟩

theorem mkOk {n b : Nat} (hb : b = 1) (h : n ≤ 1000000000) : 0 ≤ (n : Int) ∧ (n : Int) = n ∧ (n : Int) * (b : Int) ≤ 281474976710656 ∧ (n : Int) ≤ 9223372036854775807 := by
  subst hb
  omega

def limB (n : Nat) : Bat := ⟨0, ((n - 1 : Nat) : Int), 0, 0, 0, limR n⟩
def oneB (k v : Nat) : Bat := ⟨0, 0, 0, 0, 0, [⟨0, 0, true, List.replicate k 0, true, List.replicate v 0⟩]⟩
def noneB : Bat := ⟨0, 0, 0, 0, 0, [⟨0, 0, false, [107], false, []⟩]⟩
theorem limR_length (n : Nat) : (limR n).length = n := by simp [limR]
theorem limR_get {n k : Nat} {x : Rec} (h : (limR n)[k]? = some x) : x = ⟨k, 0, false, [], false, []⟩ ∧ k < n := by
  have hk : k < (limR n).length := by
    rcases Nat.lt_or_ge k (limR n).length with q | q
    · exact q
    · rw [List.getElem?_eq_none q] at h; cases h
  rw [limR_length] at hk
  simp only [limR, List.getElem?_map, List.getElem?_range hk, Option.map_some, Option.some.injEq] at h
  exact ⟨h.symm, hk⟩
theorem limB_recsE {n : Nat} (hn : n ≤ 100) : ∀ (m k : Nat), k + m = n → recsE (limB n) ((limB n).recs.drop k) ((k : Int) - 1) = 0
  | 0, k, h => by
    have : (limB n).recs.drop k = [] := List.drop_eq_nil_of_le (by show (limR n).length ≤ k; rw [limR_length]; omega)
    rw [this]; rfl
  | m + 1, k, h => by
    obtain ⟨x, hx⟩ : ∃ x, (limB n).recs[k]? = some x := ⟨_, List.getElem?_eq_getElem (by show k < (limR n).length; rw [limR_length]; omega)⟩
    obtain ⟨hx1, hx2⟩ := limR_get (n := n) hx
    have he : recE x (limB n).base (limB n).last ((k : Int) - 1) = 0 := by
      subst hx1
      refine recE_ok ?_ ?_
      · unfold RecBad limB
        simp
        omega
      · unfold RecBig
        simp
    rw [recsE_drop hx, if_neg (by rw [he]; simp), hx1]
    have := limB_recsE hn m (k + 1) (by omega)
    rw [show (((k + 1 : Nat) : Int) - 1) = (k : Int) by omega] at this
    exact this
theorem limB_head {n : Nat} (hn : n ≤ 1000) : ¬ HeadBad (limB n) := by
  unfold HeadBad limB
  dsimp only
  omega
theorem limB_chk {n : Nat} (hn : n ≤ 1000) : (limB n).chk = if 100 < n then 3 else 0 := by
  have hl : (limB n).recs.length = n := limR_length n
  by_cases h : 100 < n
  · rw [if_pos h, chk_many (limB_head hn) (by rw [hl]; exact h)]
  · rw [if_neg h]
    have he := limB_recsE (n := n) (by omega) n 0 (by omega)
    rw [List.drop_zero] at he
    have he : recsE (limB n) (limB n).recs (-1) = 0 := he
    have hf := fine_of (limB_head hn) (by rw [hl]; omega) he
    refine chk_ok (limB_head hn) (by rw [hl]; exact h) he ?_
    have h1 := recsB_wt hf (limB n).recs hf.recs
    have h2 : ∀ (m : List Rec), (∀ x ∈ m, x.key.length = 0 ∧ x.val.length = 0) → wtR m = m.length := fun m => by
      induction m with
      | nil => intro _; simp [wtR]
      | cons x m ih =>
        intro h
        have := ih fun y hy => h y (List.mem_cons_of_mem _ hy)
        have hx := h x List.mem_cons_self
        have hw : x.wt = 1 + x.key.length + x.val.length := rfl
        simp only [wtR, List.map_cons, List.sum_cons, List.length_cons] at this ⊢
        omega
    have h3 := h2 (limB n).recs fun x hx => by
      obtain ⟨k, hk⟩ := List.mem_iff_getElem?.1 hx
      rw [(limR_get (n := n) hk).1]
      exact ⟨rfl, rfl⟩
    rw [batE_len, Bat.rest, List.length_append, head_len]
    rw [hl] at h1 h3
    omega
theorem oneB_chk {k v : Nat} (hk : k ≤ 210) (hv : v ≤ 2010) : (oneB k v).chk = if 200 < k ∨ 2000 < v then 3 else 0 := by
  have hh : ¬ HeadBad (oneB k v) := by
    unfold HeadBad oneB
    dsimp only
    omega
  have hb : ¬ RecBad ⟨0, 0, true, List.replicate k 0, true, List.replicate v 0⟩ (oneB k v).base (oneB k v).last (-1) := by
    unfold RecBad oneB
    simp
  have hr : recsE (oneB k v) (oneB k v).recs (-1) = if 200 < k ∨ 2000 < v then 3 else 0 := by
    show (if recE _ _ _ _ ≠ 0 then recE _ _ _ _ else 0) = _
    by_cases h : 200 < k ∨ 2000 < v
    · rw [recE_big hb (by unfold RecBig; simp; omega), if_pos h]; simp
    · rw [recE_ok hb (by unfold RecBig; simp; omega), if_neg h]; simp
  by_cases h : 200 < k ∨ 2000 < v
  · rw [if_pos h] at hr ⊢
    rw [chk_rec hh (by show ¬ 100 < 1; omega) (by rw [hr]; decide), hr]
  · rw [if_neg h] at hr ⊢
    have hf := fine_of hh (by show 1 ≤ 100; omega) hr
    refine chk_ok hh (by show ¬ 100 < 1; omega) hr ?_
    have h1 := recsB_wt hf (oneB k v).recs hf.recs
    have h2 : wtR (oneB k v).recs = 1 + k + v := by simp [oneB, wtR, Rec.wt]
    have h3 : (oneB k v).recs.length = 1 := rfl
    rw [h2, h3] at h1
    rw [batE_len, Bat.rest, List.length_append, head_len]
    omega
theorem noneB_chk : noneB.chk = 1 := by
  have hh : ¬ HeadBad noneB := by
    unfold HeadBad noneB
    dsimp only
    omega
  have hr : recsE noneB noneB.recs (-1) = 1 := by
    show (if recE _ _ _ _ ≠ 0 then recE _ _ _ _ else 0) = _
    rw [recE_bad (by unfold RecBad; simp)]; simp
  rw [chk_rec hh (by show ¬ 100 < 1; omega) (by rw [hr]; decide), hr]
theorem ep_chk : (⟨0, 0, 0, 1, 0, []⟩ : Bat).chk = 1 := chk_head (by unfold HeadBad; dsimp only; omega)
theorem pr_chk : (⟨0, 0, 1, 1, 0, []⟩ : Bat).chk = 0 := by
  have hh : ¬ HeadBad (⟨0, 0, 1, 1, 0, []⟩ : Bat) := by unfold HeadBad; dsimp only; omega
  have hf := fine_of (b := ⟨0, 0, 1, 1, 0, []⟩) hh (by show 0 ≤ 100; omega) rfl
  refine chk_ok hh (by show ¬ 100 < 0; omega) rfl ?_
  have h1 := recsB_wt hf (⟨0, 0, 1, 1, 0, []⟩ : Bat).recs hf.recs
  have h2 : wtR (⟨0, 0, 1, 1, 0, []⟩ : Bat).recs = 0 := rfl
  have h3 : (⟨0, 0, 1, 1, 0, []⟩ : Bat).recs.length = 0 := rfl
  rw [h2, h3] at h1
  rw [batE_len, Bat.rest, List.length_append, head_len]
  omega
theorem one_size {k v : Nat} (hk : k ≤ 210) (hv : v ≤ 2010) : decide ((((oneB k v).out.length : Nat) : Int) > 0) = !decide (200 < k ∨ 2000 < v) := by
  have h := oneB_chk hk hv
  by_cases hb : 200 < k ∨ 2000 < v
  · rw [if_pos hb] at h
    rw [out_no (by rw [h]; decide)]
    simp [hb]
  · rw [if_neg hb] at h
    rw [out_yes h, batE_len]
    simp [hb]
    omega

structure LmI (n : Nat) where
  i : Nat
  s : Nat
  hi : i ≤ n

theorem limB_len (n : Nat) : (limB n).recs.length = n := limR_length n
theorem leLim {h : Heap} {p : Perm} {n : Nat} : Le h (.agg [.int .i64 0, .int .i64 ((n - 1 : Nat) : Int), .int .i64 0, .int .i64 0, .int .i64 0, .sl p 6 (recsL (limR n))]) (limB n).av :=
  Le.agg (LeL.cons (Le.refl _ _) (LeL.cons (Le.refl _ _) (LeL.cons (Le.refl _ _) (LeL.cons (Le.refl _ _) (LeL.cons (Le.refl _ _) (LeL.cons Le.none (LeL.nil _)))))))
theorem leOne {h : Heap} {p q r : Perm} {k v : Nat} : Le h (.agg [.int .i64 0, .int .i64 0, .int .i64 0, .int .i64 0, .int .i64 0, .sl p 6 [.agg [.int .i64 0, .int .i64 0, .bl true, .sl q 0 (List.replicate (k : Int).toNat (.int .u8 0)), .bl true, .sl r 0 (List.replicate (v : Int).toNat (.int .u8 0))]]]) (oneB k v).av := by
  have e1 : Le h (.agg [.int .i64 0, .int .i64 0, .bl true, .sl q 0 (List.replicate (k : Int).toNat (.int .u8 0)), .bl true, .sl r 0 (List.replicate (v : Int).toNat (.int .u8 0))]) (⟨0, 0, true, List.replicate k 0, true, List.replicate v 0⟩ : Rec).av :=
    Le.agg (LeL.cons (Le.refl _ _) (LeL.cons (Le.refl _ _) (LeL.cons Le.bl (LeL.cons (Le.noneOf (by rw [Int.toNat_natCast, u8s_zeros])) (LeL.cons Le.bl (LeL.cons (Le.noneOf (by rw [Int.toNat_natCast, u8s_zeros])) (LeL.nil _)))))))
  exact Le.agg (LeL.cons (Le.refl _ _) (LeL.cons (Le.refl _ _) (LeL.cons (Le.refl _ _) (LeL.cons (Le.refl _ _) (LeL.cons (Le.refl _ _) (LeL.cons (Le.slL (LeL.cons e1 (LeL.nil _)) (fun e => by cases e)) (LeL.nil _)))))))
theorem leNone {h : Heap} {p q : Perm} : Le h (.agg [.int .i64 0, .int .i64 0, .int .i64 0, .int .i64 0, .int .i64 0, .sl p 6 [.agg [.int .i64 0, .int .i64 0, .bl false, .sl q 0 [.int .u8 107], .bl false, .nils]]]) noneB.av := by
  have e1 : Le h (.agg [.int .i64 0, .int .i64 0, .bl false, .sl q 0 [.int .u8 107], .bl false, .nils]) (⟨0, 0, false, [107], false, []⟩ : Rec).av :=
    Le.agg (LeL.cons (Le.refl _ _) (LeL.cons (Le.refl _ _) (LeL.cons Le.bl (LeL.cons (Le.noneOf rfl) (LeL.cons Le.bl (LeL.cons Le.nils (LeL.nil _)))))))
  exact Le.agg (LeL.cons (Le.refl _ _) (LeL.cons (Le.refl _ _) (LeL.cons (Le.refl _ _) (LeL.cons (Le.refl _ _) (LeL.cons (Le.refl _ _) (LeL.cons (Le.slL (LeL.cons e1 (LeL.nil _)) (fun e => by cases e)) (LeL.nil _)))))))

theorem lawLimits {n k v : Int} (hn : I64 n) (hk : I64 k) (hv : I64 v) : CallOK Try.prog 8 [.int .i64 n, .int .i64 k, .int .i64 v] [] 0 Tru := by
  refine callOK Try.call8 Try.func8 Try.ntmps8 rfl ?_
  conv => arg 4; whnf
  refine ⟨fun h => ?_, fun h => ?_⟩
  · (conv => arg 4; whnf); repeat (refine ⟨rfl, ?_⟩; conv => arg 4; whnf)
    refine call0 awake5 (by (repeat' (first | with_reducible assumption | exact ClL.nil | exact Cl.int _ _ | exact Cl.bool _ | exact Cl.bl _ | exact Cl.bs _ | exact Cl.str _ | exact Cl.nils | exact Cl.nilp | exact Cl.rec _ | exact Cl.bat _ | exact Cl.recsV _ | exact Cl.strsV _ | exact Cl.intsV _ | exact Cl.req _ | exact Cl.rsp _ | exact Cl.reqA _ | exact Cl.rspA _ | exact Cl.batsV _ | exact Cl.getB _ | exact Cl.encA _ | exact Cl.firstA _ | refine ClL.cons ?_ ?_ | refine Cl.tup ?_ | refine Cl.agg ?_ | exact ClO.RO _ _))) (by (repeat' (first | with_reducible assumption | exact ClL.nil | exact Cl.int _ _ | exact Cl.bool _ | exact Cl.bl _ | exact Cl.bs _ | exact Cl.str _ | exact Cl.nils | exact Cl.nilp | exact Cl.rec _ | exact Cl.bat _ | exact Cl.recsV _ | exact Cl.strsV _ | exact Cl.intsV _ | exact Cl.req _ | exact Cl.rsp _ | exact Cl.reqA _ | exact Cl.rspA _ | exact Cl.batsV _ | exact Cl.getB _ | exact Cl.encA _ | exact Cl.firstA _ | refine ClL.cons ?_ ?_ | refine Cl.tup ?_ | refine Cl.agg ?_ | exact ClO.RO _ _))) ?_
    (conv => arg 4; whnf); repeat (refine ⟨rfl, ?_⟩; conv => arg 4; whnf)
    exact .inl rfl
  · rw [← Bool.not_eq_true] at h; simp only [Bool.cond_true_left, Bool.cond_false_right, Bool.or_eq_true, Bool.and_eq_true, Bool.not_eq_true', decide_eq_true_eq, beq_iff_eq, bne_iff_ne, u8s_length, gt_iff_lt, ge_iff_le] at h
    obtain ⟨n, rfl⟩ : ∃ m : Nat, n = m := ⟨n.toNat, by omega⟩
    obtain ⟨k, rfl⟩ : ∃ m : Nat, k = m := ⟨k.toNat, by omega⟩
    obtain ⟨v, rfl⟩ : ∃ m : Nat, v = m := ⟨v.toNat, by omega⟩
    (conv => arg 4; whnf); repeat (refine ⟨rfl, ?_⟩; conv => arg 4; whnf)
    have hlast : (if 0 > IntKind.i64.wrap ((n : Int) - 1) then 0 else IntKind.i64.wrap ((n : Int) - 1)) = ((n - 1 : Nat) : Int) := by rw [IntKind.wrap_i64]; split <;> omega
    rw [hlast]
    refine tri_loopG (ι := LmI n) (fun a => ⟨[(8, .int .i64 a.i), (7, .ptr 0 0), (0, .int .i64 n), (1, .int .i64 k), (2, .int .i64 v)], [(1, .tip a.s), (0, .cells [.int .i64 0, .int .i64 ((n - 1 : Nat) : Int), .int .i64 0, .int .i64 0, .int .i64 0, .sl (.tok 1 a.s) 6 (recsL (limR a.i))])], 2, 109⟩) (fun a => n - a.i) ⟨0, 0, Nat.zero_le _⟩ (WkG.tok rfl rfl ⟨Le.refl _ _, Le.refl _ _, Le.refl _ _, Le.refl _ _, Le.refl _ _, trivial⟩ ⟨⟨_, rfl, rfl⟩, ⟨_, rfl, LeL.cons (Le.refl _ _) (LeL.cons (Le.refl _ _) (LeL.cons (Le.refl _ _) (LeL.cons (Le.refl _ _) (LeL.cons (Le.refl _ _) (LeL.cons (Le.nilsTok rfl) (LeL.nil _))))))⟩, trivial⟩ ⟨rfl, rfl, rfl, rfl, rfl, trivial⟩ ⟨⟨by decide, rfl⟩, ⟨by decide, rfl⟩, trivial⟩) ?_
    rintro ⟨i, s, hi⟩
    dsimp only
    conv => arg 4; whnf
    refine ⟨fun hlt => ?_, fun hlt => ?_⟩
    · have hlt : i < n := by simp at hlt; omega
      (conv => arg 4; whnf); repeat (refine ⟨rfl, ?_⟩; conv => arg 4; whnf)
      refine ⟨⟨rfl, sizeOk 80 rfl ?_⟩, ?_⟩
      · rw [List.length_append, recs_length]; simp only [limR, List.length_cons, List.length_nil, List.length_map, List.length_range]; omega
      (conv => arg 4; whnf); repeat (refine ⟨rfl, ?_⟩; conv => arg 4; whnf)
      refine ⟨⟨i + 1, s + 1, by omega⟩, by show n - (i + 1) < n - i; omega, WkG.of rfl rfl ⟨Le.of_eq (succ_i64 (by omega)), Le.refl _ _, Le.refl _ _, Le.refl _ _, Le.refl _ _, trivial⟩ ⟨⟨_, rfl, LeO.refl _ _⟩, ⟨_, rfl, ?_⟩, trivial⟩ ⟨rfl, rfl, rfl, rfl, rfl, trivial⟩ ⟨⟨by decide, rfl⟩, ⟨by decide, ?_⟩, trivial⟩⟩
      · have e : recsL (limR (i + 1)) = recsL (limR i) ++ [(⟨(i : Int), 0, false, [], false, []⟩ : Rec).av] := by rw [limR_succ]; simp [recsL]
        rw [e]
        refine LeL.cons (Le.refl _ _) (LeL.cons (Le.refl _ _) (LeL.cons (Le.refl _ _) (LeL.cons (Le.refl _ _) (LeL.cons (Le.refl _ _) (LeL.cons ?_ (LeL.nil _))))))
        exact Le.slT (LeL.app (LeL.refl _ _) (LeL.cons (by show Le _ (.agg _) (.agg _); (repeat' (first | with_reducible exact Le.refl _ _ | exact Le.bl | exact Le.lb | exact Le.nils | exact Le.nilsFull | exact Le.none | exact LeL.nil _ | refine LeL.cons ?_ ?_ | refine Le.tup ?_ | refine Le.agg ?_ | exact Le.refl _ _ | exact LeL.refl _ _))) (LeL.nil _)))
      · simp only [renO, renL, ren, ren_recs, renP, cut_lt (show 1 < 2 by decide)]
    · have hlt : i = n := by simp at hlt; omega
      subst hlt
      conv => arg 4; whnf
      refine fin_exit ?_
      show holds _ _ _ _
      conv => arg 4; whnf
      refine ⟨fun h1 => ?_, fun h1 => ?_⟩
      · have c1 : (limB i).chk = 3 := by
          rw [limB_chk (by omega)]
          simp at h1
          rw [if_pos (by omega)]
        (conv => arg 4; whnf); repeat (refine ⟨rfl, ?_⟩; conv => arg 4; whnf)
        refine ⟨mkOk rfl (by omega), ?_⟩
        conv => arg 4; whnf
        refine ⟨mkOk rfl (by omega), .inl ?_⟩
        conv => arg 4; whnf
        refine ⟨fun h2 => ?_, fun h2 => ?_⟩
        · have h2 : 200 < k ∨ 2000 < v := by
            simp only [Bool.cond_true_left, Bool.cond_false_right, Bool.or_eq_true, Bool.and_eq_true, Bool.not_eq_true', decide_eq_true_eq, beq_iff_eq, bne_iff_ne, u8s_length, Bool.not_eq_true, gt_iff_lt, ge_iff_le] at h2
            omega
          have c2 : (oneB k v).chk = 3 := by rw [oneB_chk (by omega) (by omega), if_pos h2]
          have c3 : decide ((((oneB k v).out.length : Nat) : Int) > 0) = false := by rw [one_size (by omega) (by omega)]; simp [h2]
          (conv => arg 4; whnf); repeat (refine ⟨rfl, ?_⟩; conv => arg 4; whnf)
          refine Or.inr ?_
          conv => arg 4; whnf
          refine holds_args (args' := [(limB i).av]) ⟨leLim, trivial⟩ ?_
          refine call0 (batCheck (b := limB i) (by rw [limB_len]; omega)) (ClL.cons (Cl.bat _) ClL.nil) (by (repeat' (first | with_reducible assumption | exact ClL.nil | exact Cl.int _ _ | exact Cl.bool _ | exact Cl.bl _ | exact Cl.bs _ | exact Cl.str _ | exact Cl.nils | exact Cl.nilp | exact Cl.rec _ | exact Cl.bat _ | exact Cl.recsV _ | exact Cl.strsV _ | exact Cl.intsV _ | exact Cl.req _ | exact Cl.rsp _ | exact Cl.reqA _ | exact Cl.rspA _ | exact Cl.batsV _ | exact Cl.getB _ | exact Cl.encA _ | exact Cl.firstA _ | refine ClL.cons ?_ ?_ | refine Cl.tup ?_ | refine Cl.agg ?_ | exact ClO.RO _ _))) ?_
          (conv => arg 4; whnf); repeat (refine ⟨rfl, ?_⟩; conv => arg 4; whnf)
          refine ⟨fun _ => ?_, fun h' => absurd h' (by rw [c1]; decide)⟩
          (conv => arg 4; whnf); repeat (refine ⟨rfl, ?_⟩; conv => arg 4; whnf)
          refine holds_args (args' := [(oneB k v).av]) ⟨leOne, trivial⟩ ?_
          refine call0 (batCheck (b := oneB k v) (by show 1 ≤ 1000000; omega)) (ClL.cons (Cl.bat _) ClL.nil) (by (repeat' (first | with_reducible assumption | exact ClL.nil | exact Cl.int _ _ | exact Cl.bool _ | exact Cl.bl _ | exact Cl.bs _ | exact Cl.str _ | exact Cl.nils | exact Cl.nilp | exact Cl.rec _ | exact Cl.bat _ | exact Cl.recsV _ | exact Cl.strsV _ | exact Cl.intsV _ | exact Cl.req _ | exact Cl.rsp _ | exact Cl.reqA _ | exact Cl.rspA _ | exact Cl.batsV _ | exact Cl.getB _ | exact Cl.encA _ | exact Cl.firstA _ | refine ClL.cons ?_ ?_ | refine Cl.tup ?_ | refine Cl.agg ?_ | exact ClO.RO _ _))) ?_
          (conv => arg 4; whnf); repeat (refine ⟨rfl, ?_⟩; conv => arg 4; whnf)
          refine ⟨fun _ => ?_, fun h' => absurd h' (by rw [c2]; decide)⟩
          (conv => arg 4; whnf); repeat (refine ⟨rfl, ?_⟩; conv => arg 4; whnf)
          refine holds_args (args' := [(oneB k v).av]) ⟨leOne, trivial⟩ ?_
          refine call0 (batSize (b := oneB k v) (by show 1 ≤ 1000000; omega)) (ClL.cons (Cl.bat _) ClL.nil) (by (repeat' (first | with_reducible assumption | exact ClL.nil | exact Cl.int _ _ | exact Cl.bool _ | exact Cl.bl _ | exact Cl.bs _ | exact Cl.str _ | exact Cl.nils | exact Cl.nilp | exact Cl.rec _ | exact Cl.bat _ | exact Cl.recsV _ | exact Cl.strsV _ | exact Cl.intsV _ | exact Cl.req _ | exact Cl.rsp _ | exact Cl.reqA _ | exact Cl.rspA _ | exact Cl.batsV _ | exact Cl.getB _ | exact Cl.encA _ | exact Cl.firstA _ | refine ClL.cons ?_ ?_ | refine Cl.tup ?_ | refine Cl.agg ?_ | exact ClO.RO _ _))) ?_
          (conv => arg 4; whnf); repeat (refine ⟨rfl, ?_⟩; conv => arg 4; whnf)
          refine ⟨fun _ => ?_, fun h' => absurd h' (by rw [c3]; decide)⟩
          (conv => arg 4; whnf); repeat (refine ⟨rfl, ?_⟩; conv => arg 4; whnf)
          refine holds_args (args' := [noneB.av]) ⟨leNone, trivial⟩ ?_
          refine call0 (batCheck (b := noneB) (by show 1 ≤ 1000000; omega)) (ClL.cons (Cl.bat _) ClL.nil) (by (repeat' (first | with_reducible assumption | exact ClL.nil | exact Cl.int _ _ | exact Cl.bool _ | exact Cl.bl _ | exact Cl.bs _ | exact Cl.str _ | exact Cl.nils | exact Cl.nilp | exact Cl.rec _ | exact Cl.bat _ | exact Cl.recsV _ | exact Cl.strsV _ | exact Cl.intsV _ | exact Cl.req _ | exact Cl.rsp _ | exact Cl.reqA _ | exact Cl.rspA _ | exact Cl.batsV _ | exact Cl.getB _ | exact Cl.encA _ | exact Cl.firstA _ | refine ClL.cons ?_ ?_ | refine Cl.tup ?_ | refine Cl.agg ?_ | exact ClO.RO _ _))) ?_
          (conv => arg 4; whnf); repeat (refine ⟨rfl, ?_⟩; conv => arg 4; whnf)
          refine ⟨fun _ => ?_, fun h' => absurd h' (by rw [noneB_chk]; decide)⟩
          (conv => arg 4; whnf); repeat (refine ⟨rfl, ?_⟩; conv => arg 4; whnf)
          refine holds_args (args' := [(⟨0, 0, 0, 1, 0, []⟩ : Bat).av]) ⟨Le.agg (LeL.cons (Le.refl _ _) (LeL.cons (Le.refl _ _) (LeL.cons (Le.refl _ _) (LeL.cons (Le.refl _ _) (LeL.cons (Le.refl _ _) (LeL.cons Le.nils (LeL.nil _))))))), trivial⟩ ?_
          refine call0 (batCheck (b := ⟨0, 0, 0, 1, 0, []⟩) (by show 0 ≤ 1000000; omega)) (ClL.cons (Cl.bat _) ClL.nil) (by (repeat' (first | with_reducible assumption | exact ClL.nil | exact Cl.int _ _ | exact Cl.bool _ | exact Cl.bl _ | exact Cl.bs _ | exact Cl.str _ | exact Cl.nils | exact Cl.nilp | exact Cl.rec _ | exact Cl.bat _ | exact Cl.recsV _ | exact Cl.strsV _ | exact Cl.intsV _ | exact Cl.req _ | exact Cl.rsp _ | exact Cl.reqA _ | exact Cl.rspA _ | exact Cl.batsV _ | exact Cl.getB _ | exact Cl.encA _ | exact Cl.firstA _ | refine ClL.cons ?_ ?_ | refine Cl.tup ?_ | refine Cl.agg ?_ | exact ClO.RO _ _))) ?_
          (conv => arg 4; whnf); repeat (refine ⟨rfl, ?_⟩; conv => arg 4; whnf)
          refine ⟨fun _ => ?_, fun h' => absurd h' (by rw [ep_chk]; decide)⟩
          (conv => arg 4; whnf); repeat (refine ⟨rfl, ?_⟩; conv => arg 4; whnf)
          refine holds_args (args' := [(⟨0, 0, 1, 1, 0, []⟩ : Bat).av]) ⟨Le.agg (LeL.cons (Le.refl _ _) (LeL.cons (Le.refl _ _) (LeL.cons (Le.refl _ _) (LeL.cons (Le.refl _ _) (LeL.cons (Le.refl _ _) (LeL.cons Le.nils (LeL.nil _))))))), trivial⟩ ?_
          refine call0 (batCheck (b := ⟨0, 0, 1, 1, 0, []⟩) (by show 0 ≤ 1000000; omega)) (ClL.cons (Cl.bat _) ClL.nil) (by (repeat' (first | with_reducible assumption | exact ClL.nil | exact Cl.int _ _ | exact Cl.bool _ | exact Cl.bl _ | exact Cl.bs _ | exact Cl.str _ | exact Cl.nils | exact Cl.nilp | exact Cl.rec _ | exact Cl.bat _ | exact Cl.recsV _ | exact Cl.strsV _ | exact Cl.intsV _ | exact Cl.req _ | exact Cl.rsp _ | exact Cl.reqA _ | exact Cl.rspA _ | exact Cl.batsV _ | exact Cl.getB _ | exact Cl.encA _ | exact Cl.firstA _ | refine ClL.cons ?_ ?_ | refine Cl.tup ?_ | refine Cl.agg ?_ | exact ClO.RO _ _))) ?_
          (conv => arg 4; whnf); repeat (refine ⟨rfl, ?_⟩; conv => arg 4; whnf)
          refine ⟨fun _ => ?_, fun h' => absurd h' (by rw [pr_chk]; decide)⟩
          (conv => arg 4; whnf); repeat (refine ⟨rfl, ?_⟩; conv => arg 4; whnf)
          refine call0 awake5 (by (repeat' (first | with_reducible assumption | exact ClL.nil | exact Cl.int _ _ | exact Cl.bool _ | exact Cl.bl _ | exact Cl.bs _ | exact Cl.str _ | exact Cl.nils | exact Cl.nilp | exact Cl.rec _ | exact Cl.bat _ | exact Cl.recsV _ | exact Cl.strsV _ | exact Cl.intsV _ | exact Cl.req _ | exact Cl.rsp _ | exact Cl.reqA _ | exact Cl.rspA _ | exact Cl.batsV _ | exact Cl.getB _ | exact Cl.encA _ | exact Cl.firstA _ | refine ClL.cons ?_ ?_ | refine Cl.tup ?_ | refine Cl.agg ?_ | exact ClO.RO _ _))) (by (repeat' (first | with_reducible assumption | exact ClL.nil | exact Cl.int _ _ | exact Cl.bool _ | exact Cl.bl _ | exact Cl.bs _ | exact Cl.str _ | exact Cl.nils | exact Cl.nilp | exact Cl.rec _ | exact Cl.bat _ | exact Cl.recsV _ | exact Cl.strsV _ | exact Cl.intsV _ | exact Cl.req _ | exact Cl.rsp _ | exact Cl.reqA _ | exact Cl.rspA _ | exact Cl.batsV _ | exact Cl.getB _ | exact Cl.encA _ | exact Cl.firstA _ | refine ClL.cons ?_ ?_ | refine Cl.tup ?_ | refine Cl.agg ?_ | exact ClO.RO _ _))) ?_
          (conv => arg 4; whnf); repeat (refine ⟨rfl, ?_⟩; conv => arg 4; whnf)
          exact .inl rfl
        · have h2 : ¬ (200 < k ∨ 2000 < v) := by
            rw [← Bool.not_eq_true] at h2; simp only [Bool.cond_true_left, Bool.cond_false_right, Bool.or_eq_true, Bool.and_eq_true, Bool.not_eq_true', decide_eq_true_eq, beq_iff_eq, bne_iff_ne, u8s_length, gt_iff_lt, ge_iff_le] at h2
            omega
          have c2 : (oneB k v).chk = 0 := by rw [oneB_chk (by omega) (by omega), if_neg h2]
          have c3 : decide ((((oneB k v).out.length : Nat) : Int) > 0) = true := by rw [one_size (by omega) (by omega)]; simp [h2]
          (conv => arg 4; whnf); repeat (refine ⟨rfl, ?_⟩; conv => arg 4; whnf)
          refine Or.inr ?_
          conv => arg 4; whnf
          refine holds_args (args' := [(limB i).av]) ⟨leLim, trivial⟩ ?_
          refine call0 (batCheck (b := limB i) (by rw [limB_len]; omega)) (ClL.cons (Cl.bat _) ClL.nil) (by (repeat' (first | with_reducible assumption | exact ClL.nil | exact Cl.int _ _ | exact Cl.bool _ | exact Cl.bl _ | exact Cl.bs _ | exact Cl.str _ | exact Cl.nils | exact Cl.nilp | exact Cl.rec _ | exact Cl.bat _ | exact Cl.recsV _ | exact Cl.strsV _ | exact Cl.intsV _ | exact Cl.req _ | exact Cl.rsp _ | exact Cl.reqA _ | exact Cl.rspA _ | exact Cl.batsV _ | exact Cl.getB _ | exact Cl.encA _ | exact Cl.firstA _ | refine ClL.cons ?_ ?_ | refine Cl.tup ?_ | refine Cl.agg ?_ | exact ClO.RO _ _))) ?_
          (conv => arg 4; whnf); repeat (refine ⟨rfl, ?_⟩; conv => arg 4; whnf)
          refine ⟨fun _ => ?_, fun h' => absurd h' (by rw [c1]; decide)⟩
          (conv => arg 4; whnf); repeat (refine ⟨rfl, ?_⟩; conv => arg 4; whnf)
          refine holds_args (args' := [(oneB k v).av]) ⟨leOne, trivial⟩ ?_
          refine call0 (batCheck (b := oneB k v) (by show 1 ≤ 1000000; omega)) (ClL.cons (Cl.bat _) ClL.nil) (by (repeat' (first | with_reducible assumption | exact ClL.nil | exact Cl.int _ _ | exact Cl.bool _ | exact Cl.bl _ | exact Cl.bs _ | exact Cl.str _ | exact Cl.nils | exact Cl.nilp | exact Cl.rec _ | exact Cl.bat _ | exact Cl.recsV _ | exact Cl.strsV _ | exact Cl.intsV _ | exact Cl.req _ | exact Cl.rsp _ | exact Cl.reqA _ | exact Cl.rspA _ | exact Cl.batsV _ | exact Cl.getB _ | exact Cl.encA _ | exact Cl.firstA _ | refine ClL.cons ?_ ?_ | refine Cl.tup ?_ | refine Cl.agg ?_ | exact ClO.RO _ _))) ?_
          (conv => arg 4; whnf); repeat (refine ⟨rfl, ?_⟩; conv => arg 4; whnf)
          refine ⟨fun _ => ?_, fun h' => absurd h' (by rw [c2]; decide)⟩
          (conv => arg 4; whnf); repeat (refine ⟨rfl, ?_⟩; conv => arg 4; whnf)
          refine holds_args (args' := [(oneB k v).av]) ⟨leOne, trivial⟩ ?_
          refine call0 (batSize (b := oneB k v) (by show 1 ≤ 1000000; omega)) (ClL.cons (Cl.bat _) ClL.nil) (by (repeat' (first | with_reducible assumption | exact ClL.nil | exact Cl.int _ _ | exact Cl.bool _ | exact Cl.bl _ | exact Cl.bs _ | exact Cl.str _ | exact Cl.nils | exact Cl.nilp | exact Cl.rec _ | exact Cl.bat _ | exact Cl.recsV _ | exact Cl.strsV _ | exact Cl.intsV _ | exact Cl.req _ | exact Cl.rsp _ | exact Cl.reqA _ | exact Cl.rspA _ | exact Cl.batsV _ | exact Cl.getB _ | exact Cl.encA _ | exact Cl.firstA _ | refine ClL.cons ?_ ?_ | refine Cl.tup ?_ | refine Cl.agg ?_ | exact ClO.RO _ _))) ?_
          (conv => arg 4; whnf); repeat (refine ⟨rfl, ?_⟩; conv => arg 4; whnf)
          refine ⟨fun _ => ?_, fun h' => absurd h' (by rw [c3]; decide)⟩
          (conv => arg 4; whnf); repeat (refine ⟨rfl, ?_⟩; conv => arg 4; whnf)
          refine holds_args (args' := [noneB.av]) ⟨leNone, trivial⟩ ?_
          refine call0 (batCheck (b := noneB) (by show 1 ≤ 1000000; omega)) (ClL.cons (Cl.bat _) ClL.nil) (by (repeat' (first | with_reducible assumption | exact ClL.nil | exact Cl.int _ _ | exact Cl.bool _ | exact Cl.bl _ | exact Cl.bs _ | exact Cl.str _ | exact Cl.nils | exact Cl.nilp | exact Cl.rec _ | exact Cl.bat _ | exact Cl.recsV _ | exact Cl.strsV _ | exact Cl.intsV _ | exact Cl.req _ | exact Cl.rsp _ | exact Cl.reqA _ | exact Cl.rspA _ | exact Cl.batsV _ | exact Cl.getB _ | exact Cl.encA _ | exact Cl.firstA _ | refine ClL.cons ?_ ?_ | refine Cl.tup ?_ | refine Cl.agg ?_ | exact ClO.RO _ _))) ?_
          (conv => arg 4; whnf); repeat (refine ⟨rfl, ?_⟩; conv => arg 4; whnf)
          refine ⟨fun _ => ?_, fun h' => absurd h' (by rw [noneB_chk]; decide)⟩
          (conv => arg 4; whnf); repeat (refine ⟨rfl, ?_⟩; conv => arg 4; whnf)
          refine holds_args (args' := [(⟨0, 0, 0, 1, 0, []⟩ : Bat).av]) ⟨Le.agg (LeL.cons (Le.refl _ _) (LeL.cons (Le.refl _ _) (LeL.cons (Le.refl _ _) (LeL.cons (Le.refl _ _) (LeL.cons (Le.refl _ _) (LeL.cons Le.nils (LeL.nil _))))))), trivial⟩ ?_
          refine call0 (batCheck (b := ⟨0, 0, 0, 1, 0, []⟩) (by show 0 ≤ 1000000; omega)) (ClL.cons (Cl.bat _) ClL.nil) (by (repeat' (first | with_reducible assumption | exact ClL.nil | exact Cl.int _ _ | exact Cl.bool _ | exact Cl.bl _ | exact Cl.bs _ | exact Cl.str _ | exact Cl.nils | exact Cl.nilp | exact Cl.rec _ | exact Cl.bat _ | exact Cl.recsV _ | exact Cl.strsV _ | exact Cl.intsV _ | exact Cl.req _ | exact Cl.rsp _ | exact Cl.reqA _ | exact Cl.rspA _ | exact Cl.batsV _ | exact Cl.getB _ | exact Cl.encA _ | exact Cl.firstA _ | refine ClL.cons ?_ ?_ | refine Cl.tup ?_ | refine Cl.agg ?_ | exact ClO.RO _ _))) ?_
          (conv => arg 4; whnf); repeat (refine ⟨rfl, ?_⟩; conv => arg 4; whnf)
          refine ⟨fun _ => ?_, fun h' => absurd h' (by rw [ep_chk]; decide)⟩
          (conv => arg 4; whnf); repeat (refine ⟨rfl, ?_⟩; conv => arg 4; whnf)
          refine holds_args (args' := [(⟨0, 0, 1, 1, 0, []⟩ : Bat).av]) ⟨Le.agg (LeL.cons (Le.refl _ _) (LeL.cons (Le.refl _ _) (LeL.cons (Le.refl _ _) (LeL.cons (Le.refl _ _) (LeL.cons (Le.refl _ _) (LeL.cons Le.nils (LeL.nil _))))))), trivial⟩ ?_
          refine call0 (batCheck (b := ⟨0, 0, 1, 1, 0, []⟩) (by show 0 ≤ 1000000; omega)) (ClL.cons (Cl.bat _) ClL.nil) (by (repeat' (first | with_reducible assumption | exact ClL.nil | exact Cl.int _ _ | exact Cl.bool _ | exact Cl.bl _ | exact Cl.bs _ | exact Cl.str _ | exact Cl.nils | exact Cl.nilp | exact Cl.rec _ | exact Cl.bat _ | exact Cl.recsV _ | exact Cl.strsV _ | exact Cl.intsV _ | exact Cl.req _ | exact Cl.rsp _ | exact Cl.reqA _ | exact Cl.rspA _ | exact Cl.batsV _ | exact Cl.getB _ | exact Cl.encA _ | exact Cl.firstA _ | refine ClL.cons ?_ ?_ | refine Cl.tup ?_ | refine Cl.agg ?_ | exact ClO.RO _ _))) ?_
          (conv => arg 4; whnf); repeat (refine ⟨rfl, ?_⟩; conv => arg 4; whnf)
          refine ⟨fun _ => ?_, fun h' => absurd h' (by rw [pr_chk]; decide)⟩
          (conv => arg 4; whnf); repeat (refine ⟨rfl, ?_⟩; conv => arg 4; whnf)
          refine call0 awake5 (by (repeat' (first | with_reducible assumption | exact ClL.nil | exact Cl.int _ _ | exact Cl.bool _ | exact Cl.bl _ | exact Cl.bs _ | exact Cl.str _ | exact Cl.nils | exact Cl.nilp | exact Cl.rec _ | exact Cl.bat _ | exact Cl.recsV _ | exact Cl.strsV _ | exact Cl.intsV _ | exact Cl.req _ | exact Cl.rsp _ | exact Cl.reqA _ | exact Cl.rspA _ | exact Cl.batsV _ | exact Cl.getB _ | exact Cl.encA _ | exact Cl.firstA _ | refine ClL.cons ?_ ?_ | refine Cl.tup ?_ | refine Cl.agg ?_ | exact ClO.RO _ _))) (by (repeat' (first | with_reducible assumption | exact ClL.nil | exact Cl.int _ _ | exact Cl.bool _ | exact Cl.bl _ | exact Cl.bs _ | exact Cl.str _ | exact Cl.nils | exact Cl.nilp | exact Cl.rec _ | exact Cl.bat _ | exact Cl.recsV _ | exact Cl.strsV _ | exact Cl.intsV _ | exact Cl.req _ | exact Cl.rsp _ | exact Cl.reqA _ | exact Cl.rspA _ | exact Cl.batsV _ | exact Cl.getB _ | exact Cl.encA _ | exact Cl.firstA _ | refine ClL.cons ?_ ?_ | refine Cl.tup ?_ | refine Cl.agg ?_ | exact ClO.RO _ _))) ?_
          (conv => arg 4; whnf); repeat (refine ⟨rfl, ?_⟩; conv => arg 4; whnf)
          exact .inl rfl
      · have c1 : (limB i).chk = 0 := by
          rw [limB_chk (by omega)]
          simp at h1
          rw [if_neg (by omega)]
        (conv => arg 4; whnf); repeat (refine ⟨rfl, ?_⟩; conv => arg 4; whnf)
        refine ⟨mkOk rfl (by omega), ?_⟩
        conv => arg 4; whnf
        refine ⟨mkOk rfl (by omega), .inl ?_⟩
        conv => arg 4; whnf
        refine ⟨fun h2 => ?_, fun h2 => ?_⟩
        · have h2 : 200 < k ∨ 2000 < v := by
            simp only [Bool.cond_true_left, Bool.cond_false_right, Bool.or_eq_true, Bool.and_eq_true, Bool.not_eq_true', decide_eq_true_eq, beq_iff_eq, bne_iff_ne, u8s_length, Bool.not_eq_true, gt_iff_lt, ge_iff_le] at h2
            omega
          have c2 : (oneB k v).chk = 3 := by rw [oneB_chk (by omega) (by omega), if_pos h2]
          have c3 : decide ((((oneB k v).out.length : Nat) : Int) > 0) = false := by rw [one_size (by omega) (by omega)]; simp [h2]
          (conv => arg 4; whnf); repeat (refine ⟨rfl, ?_⟩; conv => arg 4; whnf)
          refine Or.inr ?_
          conv => arg 4; whnf
          refine holds_args (args' := [(limB i).av]) ⟨leLim, trivial⟩ ?_
          refine call0 (batCheck (b := limB i) (by rw [limB_len]; omega)) (ClL.cons (Cl.bat _) ClL.nil) (by (repeat' (first | with_reducible assumption | exact ClL.nil | exact Cl.int _ _ | exact Cl.bool _ | exact Cl.bl _ | exact Cl.bs _ | exact Cl.str _ | exact Cl.nils | exact Cl.nilp | exact Cl.rec _ | exact Cl.bat _ | exact Cl.recsV _ | exact Cl.strsV _ | exact Cl.intsV _ | exact Cl.req _ | exact Cl.rsp _ | exact Cl.reqA _ | exact Cl.rspA _ | exact Cl.batsV _ | exact Cl.getB _ | exact Cl.encA _ | exact Cl.firstA _ | refine ClL.cons ?_ ?_ | refine Cl.tup ?_ | refine Cl.agg ?_ | exact ClO.RO _ _))) ?_
          (conv => arg 4; whnf); repeat (refine ⟨rfl, ?_⟩; conv => arg 4; whnf)
          refine ⟨fun _ => ?_, fun h' => absurd h' (by rw [c1]; decide)⟩
          (conv => arg 4; whnf); repeat (refine ⟨rfl, ?_⟩; conv => arg 4; whnf)
          refine holds_args (args' := [(oneB k v).av]) ⟨leOne, trivial⟩ ?_
          refine call0 (batCheck (b := oneB k v) (by show 1 ≤ 1000000; omega)) (ClL.cons (Cl.bat _) ClL.nil) (by (repeat' (first | with_reducible assumption | exact ClL.nil | exact Cl.int _ _ | exact Cl.bool _ | exact Cl.bl _ | exact Cl.bs _ | exact Cl.str _ | exact Cl.nils | exact Cl.nilp | exact Cl.rec _ | exact Cl.bat _ | exact Cl.recsV _ | exact Cl.strsV _ | exact Cl.intsV _ | exact Cl.req _ | exact Cl.rsp _ | exact Cl.reqA _ | exact Cl.rspA _ | exact Cl.batsV _ | exact Cl.getB _ | exact Cl.encA _ | exact Cl.firstA _ | refine ClL.cons ?_ ?_ | refine Cl.tup ?_ | refine Cl.agg ?_ | exact ClO.RO _ _))) ?_
          (conv => arg 4; whnf); repeat (refine ⟨rfl, ?_⟩; conv => arg 4; whnf)
          refine ⟨fun _ => ?_, fun h' => absurd h' (by rw [c2]; decide)⟩
          (conv => arg 4; whnf); repeat (refine ⟨rfl, ?_⟩; conv => arg 4; whnf)
          refine holds_args (args' := [(oneB k v).av]) ⟨leOne, trivial⟩ ?_
          refine call0 (batSize (b := oneB k v) (by show 1 ≤ 1000000; omega)) (ClL.cons (Cl.bat _) ClL.nil) (by (repeat' (first | with_reducible assumption | exact ClL.nil | exact Cl.int _ _ | exact Cl.bool _ | exact Cl.bl _ | exact Cl.bs _ | exact Cl.str _ | exact Cl.nils | exact Cl.nilp | exact Cl.rec _ | exact Cl.bat _ | exact Cl.recsV _ | exact Cl.strsV _ | exact Cl.intsV _ | exact Cl.req _ | exact Cl.rsp _ | exact Cl.reqA _ | exact Cl.rspA _ | exact Cl.batsV _ | exact Cl.getB _ | exact Cl.encA _ | exact Cl.firstA _ | refine ClL.cons ?_ ?_ | refine Cl.tup ?_ | refine Cl.agg ?_ | exact ClO.RO _ _))) ?_
          (conv => arg 4; whnf); repeat (refine ⟨rfl, ?_⟩; conv => arg 4; whnf)
          refine ⟨fun _ => ?_, fun h' => absurd h' (by rw [c3]; decide)⟩
          (conv => arg 4; whnf); repeat (refine ⟨rfl, ?_⟩; conv => arg 4; whnf)
          refine holds_args (args' := [noneB.av]) ⟨leNone, trivial⟩ ?_
          refine call0 (batCheck (b := noneB) (by show 1 ≤ 1000000; omega)) (ClL.cons (Cl.bat _) ClL.nil) (by (repeat' (first | with_reducible assumption | exact ClL.nil | exact Cl.int _ _ | exact Cl.bool _ | exact Cl.bl _ | exact Cl.bs _ | exact Cl.str _ | exact Cl.nils | exact Cl.nilp | exact Cl.rec _ | exact Cl.bat _ | exact Cl.recsV _ | exact Cl.strsV _ | exact Cl.intsV _ | exact Cl.req _ | exact Cl.rsp _ | exact Cl.reqA _ | exact Cl.rspA _ | exact Cl.batsV _ | exact Cl.getB _ | exact Cl.encA _ | exact Cl.firstA _ | refine ClL.cons ?_ ?_ | refine Cl.tup ?_ | refine Cl.agg ?_ | exact ClO.RO _ _))) ?_
          (conv => arg 4; whnf); repeat (refine ⟨rfl, ?_⟩; conv => arg 4; whnf)
          refine ⟨fun _ => ?_, fun h' => absurd h' (by rw [noneB_chk]; decide)⟩
          (conv => arg 4; whnf); repeat (refine ⟨rfl, ?_⟩; conv => arg 4; whnf)
          refine holds_args (args' := [(⟨0, 0, 0, 1, 0, []⟩ : Bat).av]) ⟨Le.agg (LeL.cons (Le.refl _ _) (LeL.cons (Le.refl _ _) (LeL.cons (Le.refl _ _) (LeL.cons (Le.refl _ _) (LeL.cons (Le.refl _ _) (LeL.cons Le.nils (LeL.nil _))))))), trivial⟩ ?_
          refine call0 (batCheck (b := ⟨0, 0, 0, 1, 0, []⟩) (by show 0 ≤ 1000000; omega)) (ClL.cons (Cl.bat _) ClL.nil) (by (repeat' (first | with_reducible assumption | exact ClL.nil | exact Cl.int _ _ | exact Cl.bool _ | exact Cl.bl _ | exact Cl.bs _ | exact Cl.str _ | exact Cl.nils | exact Cl.nilp | exact Cl.rec _ | exact Cl.bat _ | exact Cl.recsV _ | exact Cl.strsV _ | exact Cl.intsV _ | exact Cl.req _ | exact Cl.rsp _ | exact Cl.reqA _ | exact Cl.rspA _ | exact Cl.batsV _ | exact Cl.getB _ | exact Cl.encA _ | exact Cl.firstA _ | refine ClL.cons ?_ ?_ | refine Cl.tup ?_ | refine Cl.agg ?_ | exact ClO.RO _ _))) ?_
          (conv => arg 4; whnf); repeat (refine ⟨rfl, ?_⟩; conv => arg 4; whnf)
          refine ⟨fun _ => ?_, fun h' => absurd h' (by rw [ep_chk]; decide)⟩
          (conv => arg 4; whnf); repeat (refine ⟨rfl, ?_⟩; conv => arg 4; whnf)
          refine holds_args (args' := [(⟨0, 0, 1, 1, 0, []⟩ : Bat).av]) ⟨Le.agg (LeL.cons (Le.refl _ _) (LeL.cons (Le.refl _ _) (LeL.cons (Le.refl _ _) (LeL.cons (Le.refl _ _) (LeL.cons (Le.refl _ _) (LeL.cons Le.nils (LeL.nil _))))))), trivial⟩ ?_
          refine call0 (batCheck (b := ⟨0, 0, 1, 1, 0, []⟩) (by show 0 ≤ 1000000; omega)) (ClL.cons (Cl.bat _) ClL.nil) (by (repeat' (first | with_reducible assumption | exact ClL.nil | exact Cl.int _ _ | exact Cl.bool _ | exact Cl.bl _ | exact Cl.bs _ | exact Cl.str _ | exact Cl.nils | exact Cl.nilp | exact Cl.rec _ | exact Cl.bat _ | exact Cl.recsV _ | exact Cl.strsV _ | exact Cl.intsV _ | exact Cl.req _ | exact Cl.rsp _ | exact Cl.reqA _ | exact Cl.rspA _ | exact Cl.batsV _ | exact Cl.getB _ | exact Cl.encA _ | exact Cl.firstA _ | refine ClL.cons ?_ ?_ | refine Cl.tup ?_ | refine Cl.agg ?_ | exact ClO.RO _ _))) ?_
          (conv => arg 4; whnf); repeat (refine ⟨rfl, ?_⟩; conv => arg 4; whnf)
          refine ⟨fun _ => ?_, fun h' => absurd h' (by rw [pr_chk]; decide)⟩
          (conv => arg 4; whnf); repeat (refine ⟨rfl, ?_⟩; conv => arg 4; whnf)
          refine call0 awake5 (by (repeat' (first | with_reducible assumption | exact ClL.nil | exact Cl.int _ _ | exact Cl.bool _ | exact Cl.bl _ | exact Cl.bs _ | exact Cl.str _ | exact Cl.nils | exact Cl.nilp | exact Cl.rec _ | exact Cl.bat _ | exact Cl.recsV _ | exact Cl.strsV _ | exact Cl.intsV _ | exact Cl.req _ | exact Cl.rsp _ | exact Cl.reqA _ | exact Cl.rspA _ | exact Cl.batsV _ | exact Cl.getB _ | exact Cl.encA _ | exact Cl.firstA _ | refine ClL.cons ?_ ?_ | refine Cl.tup ?_ | refine Cl.agg ?_ | exact ClO.RO _ _))) (by (repeat' (first | with_reducible assumption | exact ClL.nil | exact Cl.int _ _ | exact Cl.bool _ | exact Cl.bl _ | exact Cl.bs _ | exact Cl.str _ | exact Cl.nils | exact Cl.nilp | exact Cl.rec _ | exact Cl.bat _ | exact Cl.recsV _ | exact Cl.strsV _ | exact Cl.intsV _ | exact Cl.req _ | exact Cl.rsp _ | exact Cl.reqA _ | exact Cl.rspA _ | exact Cl.batsV _ | exact Cl.getB _ | exact Cl.encA _ | exact Cl.firstA _ | refine ClL.cons ?_ ?_ | refine Cl.tup ?_ | refine Cl.agg ?_ | exact ClO.RO _ _))) ?_
          (conv => arg 4; whnf); repeat (refine ⟨rfl, ?_⟩; conv => arg 4; whnf)
          exact .inl rfl
        · have h2 : ¬ (200 < k ∨ 2000 < v) := by
            rw [← Bool.not_eq_true] at h2; simp only [Bool.cond_true_left, Bool.cond_false_right, Bool.or_eq_true, Bool.and_eq_true, Bool.not_eq_true', decide_eq_true_eq, beq_iff_eq, bne_iff_ne, u8s_length, gt_iff_lt, ge_iff_le] at h2
            omega
          have c2 : (oneB k v).chk = 0 := by rw [oneB_chk (by omega) (by omega), if_neg h2]
          have c3 : decide ((((oneB k v).out.length : Nat) : Int) > 0) = true := by rw [one_size (by omega) (by omega)]; simp [h2]
          (conv => arg 4; whnf); repeat (refine ⟨rfl, ?_⟩; conv => arg 4; whnf)
          refine Or.inr ?_
          conv => arg 4; whnf
          refine holds_args (args' := [(limB i).av]) ⟨leLim, trivial⟩ ?_
          refine call0 (batCheck (b := limB i) (by rw [limB_len]; omega)) (ClL.cons (Cl.bat _) ClL.nil) (by (repeat' (first | with_reducible assumption | exact ClL.nil | exact Cl.int _ _ | exact Cl.bool _ | exact Cl.bl _ | exact Cl.bs _ | exact Cl.str _ | exact Cl.nils | exact Cl.nilp | exact Cl.rec _ | exact Cl.bat _ | exact Cl.recsV _ | exact Cl.strsV _ | exact Cl.intsV _ | exact Cl.req _ | exact Cl.rsp _ | exact Cl.reqA _ | exact Cl.rspA _ | exact Cl.batsV _ | exact Cl.getB _ | exact Cl.encA _ | exact Cl.firstA _ | refine ClL.cons ?_ ?_ | refine Cl.tup ?_ | refine Cl.agg ?_ | exact ClO.RO _ _))) ?_
          (conv => arg 4; whnf); repeat (refine ⟨rfl, ?_⟩; conv => arg 4; whnf)
          refine ⟨fun _ => ?_, fun h' => absurd h' (by rw [c1]; decide)⟩
          (conv => arg 4; whnf); repeat (refine ⟨rfl, ?_⟩; conv => arg 4; whnf)
          refine holds_args (args' := [(oneB k v).av]) ⟨leOne, trivial⟩ ?_
          refine call0 (batCheck (b := oneB k v) (by show 1 ≤ 1000000; omega)) (ClL.cons (Cl.bat _) ClL.nil) (by (repeat' (first | with_reducible assumption | exact ClL.nil | exact Cl.int _ _ | exact Cl.bool _ | exact Cl.bl _ | exact Cl.bs _ | exact Cl.str _ | exact Cl.nils | exact Cl.nilp | exact Cl.rec _ | exact Cl.bat _ | exact Cl.recsV _ | exact Cl.strsV _ | exact Cl.intsV _ | exact Cl.req _ | exact Cl.rsp _ | exact Cl.reqA _ | exact Cl.rspA _ | exact Cl.batsV _ | exact Cl.getB _ | exact Cl.encA _ | exact Cl.firstA _ | refine ClL.cons ?_ ?_ | refine Cl.tup ?_ | refine Cl.agg ?_ | exact ClO.RO _ _))) ?_
          (conv => arg 4; whnf); repeat (refine ⟨rfl, ?_⟩; conv => arg 4; whnf)
          refine ⟨fun _ => ?_, fun h' => absurd h' (by rw [c2]; decide)⟩
          (conv => arg 4; whnf); repeat (refine ⟨rfl, ?_⟩; conv => arg 4; whnf)
          refine holds_args (args' := [(oneB k v).av]) ⟨leOne, trivial⟩ ?_
          refine call0 (batSize (b := oneB k v) (by show 1 ≤ 1000000; omega)) (ClL.cons (Cl.bat _) ClL.nil) (by (repeat' (first | with_reducible assumption | exact ClL.nil | exact Cl.int _ _ | exact Cl.bool _ | exact Cl.bl _ | exact Cl.bs _ | exact Cl.str _ | exact Cl.nils | exact Cl.nilp | exact Cl.rec _ | exact Cl.bat _ | exact Cl.recsV _ | exact Cl.strsV _ | exact Cl.intsV _ | exact Cl.req _ | exact Cl.rsp _ | exact Cl.reqA _ | exact Cl.rspA _ | exact Cl.batsV _ | exact Cl.getB _ | exact Cl.encA _ | exact Cl.firstA _ | refine ClL.cons ?_ ?_ | refine Cl.tup ?_ | refine Cl.agg ?_ | exact ClO.RO _ _))) ?_
          (conv => arg 4; whnf); repeat (refine ⟨rfl, ?_⟩; conv => arg 4; whnf)
          refine ⟨fun _ => ?_, fun h' => absurd h' (by rw [c3]; decide)⟩
          (conv => arg 4; whnf); repeat (refine ⟨rfl, ?_⟩; conv => arg 4; whnf)
          refine holds_args (args' := [noneB.av]) ⟨leNone, trivial⟩ ?_
          refine call0 (batCheck (b := noneB) (by show 1 ≤ 1000000; omega)) (ClL.cons (Cl.bat _) ClL.nil) (by (repeat' (first | with_reducible assumption | exact ClL.nil | exact Cl.int _ _ | exact Cl.bool _ | exact Cl.bl _ | exact Cl.bs _ | exact Cl.str _ | exact Cl.nils | exact Cl.nilp | exact Cl.rec _ | exact Cl.bat _ | exact Cl.recsV _ | exact Cl.strsV _ | exact Cl.intsV _ | exact Cl.req _ | exact Cl.rsp _ | exact Cl.reqA _ | exact Cl.rspA _ | exact Cl.batsV _ | exact Cl.getB _ | exact Cl.encA _ | exact Cl.firstA _ | refine ClL.cons ?_ ?_ | refine Cl.tup ?_ | refine Cl.agg ?_ | exact ClO.RO _ _))) ?_
          (conv => arg 4; whnf); repeat (refine ⟨rfl, ?_⟩; conv => arg 4; whnf)
          refine ⟨fun _ => ?_, fun h' => absurd h' (by rw [noneB_chk]; decide)⟩
          (conv => arg 4; whnf); repeat (refine ⟨rfl, ?_⟩; conv => arg 4; whnf)
          refine holds_args (args' := [(⟨0, 0, 0, 1, 0, []⟩ : Bat).av]) ⟨Le.agg (LeL.cons (Le.refl _ _) (LeL.cons (Le.refl _ _) (LeL.cons (Le.refl _ _) (LeL.cons (Le.refl _ _) (LeL.cons (Le.refl _ _) (LeL.cons Le.nils (LeL.nil _))))))), trivial⟩ ?_
          refine call0 (batCheck (b := ⟨0, 0, 0, 1, 0, []⟩) (by show 0 ≤ 1000000; omega)) (ClL.cons (Cl.bat _) ClL.nil) (by (repeat' (first | with_reducible assumption | exact ClL.nil | exact Cl.int _ _ | exact Cl.bool _ | exact Cl.bl _ | exact Cl.bs _ | exact Cl.str _ | exact Cl.nils | exact Cl.nilp | exact Cl.rec _ | exact Cl.bat _ | exact Cl.recsV _ | exact Cl.strsV _ | exact Cl.intsV _ | exact Cl.req _ | exact Cl.rsp _ | exact Cl.reqA _ | exact Cl.rspA _ | exact Cl.batsV _ | exact Cl.getB _ | exact Cl.encA _ | exact Cl.firstA _ | refine ClL.cons ?_ ?_ | refine Cl.tup ?_ | refine Cl.agg ?_ | exact ClO.RO _ _))) ?_
          (conv => arg 4; whnf); repeat (refine ⟨rfl, ?_⟩; conv => arg 4; whnf)
          refine ⟨fun _ => ?_, fun h' => absurd h' (by rw [ep_chk]; decide)⟩
          (conv => arg 4; whnf); repeat (refine ⟨rfl, ?_⟩; conv => arg 4; whnf)
          refine holds_args (args' := [(⟨0, 0, 1, 1, 0, []⟩ : Bat).av]) ⟨Le.agg (LeL.cons (Le.refl _ _) (LeL.cons (Le.refl _ _) (LeL.cons (Le.refl _ _) (LeL.cons (Le.refl _ _) (LeL.cons (Le.refl _ _) (LeL.cons Le.nils (LeL.nil _))))))), trivial⟩ ?_
          refine call0 (batCheck (b := ⟨0, 0, 1, 1, 0, []⟩) (by show 0 ≤ 1000000; omega)) (ClL.cons (Cl.bat _) ClL.nil) (by (repeat' (first | with_reducible assumption | exact ClL.nil | exact Cl.int _ _ | exact Cl.bool _ | exact Cl.bl _ | exact Cl.bs _ | exact Cl.str _ | exact Cl.nils | exact Cl.nilp | exact Cl.rec _ | exact Cl.bat _ | exact Cl.recsV _ | exact Cl.strsV _ | exact Cl.intsV _ | exact Cl.req _ | exact Cl.rsp _ | exact Cl.reqA _ | exact Cl.rspA _ | exact Cl.batsV _ | exact Cl.getB _ | exact Cl.encA _ | exact Cl.firstA _ | refine ClL.cons ?_ ?_ | refine Cl.tup ?_ | refine Cl.agg ?_ | exact ClO.RO _ _))) ?_
          (conv => arg 4; whnf); repeat (refine ⟨rfl, ?_⟩; conv => arg 4; whnf)
          refine ⟨fun _ => ?_, fun h' => absurd h' (by rw [pr_chk]; decide)⟩
          (conv => arg 4; whnf); repeat (refine ⟨rfl, ?_⟩; conv => arg 4; whnf)
          refine call0 awake5 (by (repeat' (first | with_reducible assumption | exact ClL.nil | exact Cl.int _ _ | exact Cl.bool _ | exact Cl.bl _ | exact Cl.bs _ | exact Cl.str _ | exact Cl.nils | exact Cl.nilp | exact Cl.rec _ | exact Cl.bat _ | exact Cl.recsV _ | exact Cl.strsV _ | exact Cl.intsV _ | exact Cl.req _ | exact Cl.rsp _ | exact Cl.reqA _ | exact Cl.rspA _ | exact Cl.batsV _ | exact Cl.getB _ | exact Cl.encA _ | exact Cl.firstA _ | refine ClL.cons ?_ ?_ | refine Cl.tup ?_ | refine Cl.agg ?_ | exact ClO.RO _ _))) (by (repeat' (first | with_reducible assumption | exact ClL.nil | exact Cl.int _ _ | exact Cl.bool _ | exact Cl.bl _ | exact Cl.bs _ | exact Cl.str _ | exact Cl.nils | exact Cl.nilp | exact Cl.rec _ | exact Cl.bat _ | exact Cl.recsV _ | exact Cl.strsV _ | exact Cl.intsV _ | exact Cl.req _ | exact Cl.rsp _ | exact Cl.reqA _ | exact Cl.rspA _ | exact Cl.batsV _ | exact Cl.getB _ | exact Cl.encA _ | exact Cl.firstA _ | refine ClL.cons ?_ ?_ | refine Cl.tup ?_ | refine Cl.agg ?_ | exact ClO.RO _ _))) ?_
          (conv => arg 4; whnf); repeat (refine ⟨rfl, ?_⟩; conv => arg 4; whnf)
          exact .inl rfl
end Go.Proofs.Ythclmkhkchbpiaa
