/-
  The law of what is applied.
-/
import Derived.Test.YtlifbhcmihnkpaaTxt4
set_option linter.unusedVariables false
set_option linter.unusedSimpArgs false
namespace Go.Proofs.Ytlifbhcmihnkpaa.Cm
set_option maxRecDepth 100000
set_option maxHeartbeats 80000000
open Go.Sym

theorem callG {P : Program} {Q : AExit → St → Prop} {K : AV → Heap → Nat → Prop} {f : FuncId} {args args0 : List AV} {h h0 h1 h' : Heap} {nx m1 : Nat} {a1 a1' : AV} {k : AV → Heap → Nat → R} (names : List Nat)
    (c : CallOK P f args0 h0 names.length (Out a1 h1 m1)) (hok : okNames nx names = true) (hsub : Sub nx names h h0) (hargs : args = renL (rho nx names) args0) (ha : ren (rho nx names) a1 = a1') (hm : mergeH nx names h h1 = h')
    (hk : holds P Q K (k a1' h' (nx + (m1 - names.length)))) : holds P Q K (.call f args h nx k) :=
  CallOK.frame (names := names) c hok hsub hargs fun a0 h0' m' ⟨e1, e2, e3⟩ => by
    subst e1; subst e2; subst e3
    rw [ha, hm]
    exact hk


structure BkI (l : List Stp) where
  i : Nat
  ops : List Opr
  s : Nat
  hi : i ≤ l.length
  hlen : ops.length ≤ i
  hok : ∀ p ∈ ops, p.ok
  hasc : AscF ops []
abbrev opsL (ops : List Opr) : List AV := recsL (ops.map Opr.rec')
/-- Three tables' objects, and what is appended to. -/
abbrev H3 (m1 m2 m3 : List (MK × Int)) (f1 f2 f3 : List (List UInt8 × Int)) : Heap := [(8, .cells [.map 6, .map 7]), (7, .map (fE f3)), (6, .map (mE m3)), (5, .cells [.map 3, .map 4]), (4, .map (fE f2)), (3, .map (mE m2)), (2, .cells [.map 0, .map 1]), (1, .map (fE f1)), (0, .map (mE m1))]
theorem cut_ops (nx s : Nat) (l : List Rec) : ren (cut 10 nx) (.sl (.tok 9 s) 6 (recsL l)) = .sl (.tok 9 s) 6 (recsL l) := by
  simp only [ren, ren_recs, renP, cut_lt (show 9 < 10 by decide)]

theorem now18 {i : Nat} (h : i < 100) : mayT (i : Int) = true := by
  unfold mayT
  rw [decide_eq_true_eq]
  omega
theorem argsU {nx i j k : Nat} {a : AV} (h : Cl a) : [AV.ptr k 0, a] = renL (rho nx [i, j, k]) [.ptr 2 0, a] := argsT h
theorem ops_snoc (ops : List Opr) (p : Opr) : opsL ops ++ [p.rec'.av] = opsL (ops ++ [p]) := by simp [opsL, recsL]

theorem cmGenNo {m : List (MK × Int)} {f : List (List UInt8 × Int)} {g : List UInt8} {n : Int} (h : mayG g n = false) (hg : g.length ≤ 1000000) : CallOK Try.prog 48 [.ptr 2 0, .str g, .int .i64 n] (TH m f) 3 (Out (.int .i64 1) (TH m f) 3) := by
  have c := cmGen (m := m) (f := f) (g := g) (n := n) hg
  simp only [h, Bool.false_eq_true, if_false] at c
  exact c
theorem lkF_pos {k : List UInt8} {v : Int} : ∀ {l : List Opr}, (∀ p ∈ l, p.ok) → lkF l k = some v → 0 < v
  | [], _, h => by cases h
  | p :: r, hok, h => by
    have ih := lkF_pos (k := k) (v := v) (l := r) fun q hq => hok q (List.mem_cons_of_mem _ hq)
    simp only [lkF] at h
    cases hr : lkF r k with
    | some u =>
      rw [hr] at h
      simp only [Option.some.injEq] at h
      subst h
      exact ih hr
    | none =>
      rw [hr] at h
      cases p with
      | o e now => cases h
      | g gr n now =>
        simp only at h
        split at h
        · have h1 : mayG gr n = true ∧ 0 < n := hok _ List.mem_cons_self
          simp only [Option.some.injEq] at h
          omega
        · cases h
theorem floor_nn {k : List UInt8} {ops : List Opr} (hok : ∀ p ∈ ops, p.ok) (ha : AscF ops []) : 0 ≤ (findM (runF ops) k).getD 0 := by
  unfold runF
  rw [find_foldF k ha]
  cases h : lkF ops k with
  | none => exact Int.le_refl 0
  | some v =>
    have := lkF_pos hok h
    show 0 ≤ v
    omega

structure VkI (ops : List Opr) where
  i : Nat
  hi : i ≤ ops.length

structure KeI (ops : List Opr) (i : Nat) where
  k : Nat
  h1 : i + 1 ≤ k
  h2 : k ≤ ops.length
def keyAll (ops : List Opr) (i : Nat) (p : Opr) (k : Nat) : Bool := ((ops.drop (i + 1)).take (k - (i + 1))).all fun q => decide (q.key ≠ p.key)
theorem keyAll_start (ops : List Opr) (i : Nat) (p : Opr) : keyAll ops i p (i + 1) = true := by
  unfold keyAll
  rw [Nat.sub_self]; rfl
theorem keyAll_step {ops : List Opr} {i k : Nat} {p q : Opr} (h : i + 1 ≤ k) (hq : ops[k]? = some q) : keyAll ops i p (k + 1) = (keyAll ops i p k && decide (q.key ≠ p.key)) := by
  unfold keyAll
  rw [show k + 1 - (i + 1) = (k - (i + 1)) + 1 by omega, List.take_add_one, List.getElem?_drop, show i + 1 + (k - (i + 1)) = k by omega, hq, List.all_append]
  simp
theorem keyAll_end {ops : List Opr} {i : Nat} {p : Opr} : keyAll ops i p ops.length = (ops.drop (i + 1)).all fun q => decide (q.key ≠ p.key) := by
  unfold keyAll
  rw [List.take_of_length_le (by rw [List.length_drop]; omega)]
theorem ops_get {ops : List Opr} {i : Nat} {p : Opr} (h : ops[i]? = some p) : (opsL ops)[((i : Nat) : Int).toNat]? = some p.rec'.av := by
  simp [opsL, recsL, h]
theorem rec_key (p : Opr) : p.rec'.key = p.key := by cases p <;> rfl

theorem key_cmp {ops : List Opr} {i k : Nat} {p q : Opr} (h : i + 1 ≤ k) (hq : ops[k]? = some q) (hb : keyAll ops i p k = true) : (!(q.rec'.key == p.rec'.key)) = keyAll ops i p (k + 1) := by
  rw [keyAll_step h hq, hb, rec_key, rec_key]
  by_cases e : q.key = p.key
  · simp [e]
  · simp [e]
theorem mrgTU {s : Nat} {m1 m2 m3 : List (MK × Int)} {f1 f2 f3 : List (List UInt8 × Int)} : mergeH 10 [0, 1, 2, 3, 4, 5] ((9, .tip s) :: H3 m1 m2 m3 f1 f2 f3) [(5, .cells [.map 3, .map 4]), (4, .map (fE f2)), (3, .map (mE m2)), (2, .cells [.map 0, .map 1]), (1, .map (fE f1)), (0, .map (mE m1))] = (9, .tip s) :: H3 m1 m2 m3 f1 f2 f3 := by
  show [(9, .tip s), (8, .cells [.map 6, .map 7]), (7, .map (fE f3)), (6, .map (mE m3)), (5, .cells [.map 3, .map 4]), (4, renO (rho 10 [0, 1, 2, 3, 4, 5]) (.map (fE f2))), (3, renO (rho 10 [0, 1, 2, 3, 4, 5]) (.map (mE m2))), (2, .cells [.map 0, .map 1]), (1, renO (rho 10 [0, 1, 2, 3, 4, 5]) (.map (fE f1))), (0, renO (rho 10 [0, 1, 2, 3, 4, 5]) (.map (mE m1)))] = _
  rw [ClO.fE f1, ClO.fE f2, ClO.mE m1, ClO.mE m2]
theorem mrgTV {s : Nat} {m1 m2 m3 : List (MK × Int)} {f1 f2 f3 : List (List UInt8 × Int)} : mergeH 10 [0, 1, 2, 6, 7, 8] ((9, .tip s) :: H3 m1 m2 m3 f1 f2 f3) [(5, .cells [.map 3, .map 4]), (4, .map (fE f3)), (3, .map (mE m3)), (2, .cells [.map 0, .map 1]), (1, .map (fE f1)), (0, .map (mE m1))] = (9, .tip s) :: H3 m1 m2 m3 f1 f2 f3 := by
  show [(9, .tip s), (8, .cells [.map 6, .map 7]), (7, renO (rho 10 [0, 1, 2, 6, 7, 8]) (.map (fE f3))), (6, renO (rho 10 [0, 1, 2, 6, 7, 8]) (.map (mE m3))), (5, .cells [.map 3, .map 4]), (4, .map (fE f2)), (3, .map (mE m2)), (2, .cells [.map 0, .map 1]), (1, renO (rho 10 [0, 1, 2, 6, 7, 8]) (.map (fE f1))), (0, renO (rho 10 [0, 1, 2, 6, 7, 8]) (.map (mE m1)))] = _
  rw [ClO.fE f1, ClO.fE f3, ClO.mE m1, ClO.mE m3]

theorem lawBack {l : List Stp} (hl : l.length ≤ 1000000000000000) (hf : ∀ s ∈ l, s.fine) : CallOK Try.prog 9 [stpsV l] [] 0 Tru := by
  refine callOK Try.call9 Try.func9 Try.ntmps9 rfl ?_
  conv => arg 4; whnf
  refine call0E (small18 hl hf) (ClL.cons (Cl.stpsV _) ClL.nil) (fun x => Cl.bool _) fun b hb => ?_
  (conv => arg 4; whnf); repeat (refine ⟨rfl, ?_⟩; conv => arg 4; whnf)
  refine ⟨fun h => ?_, fun h => ?_⟩
  · (conv => arg 4; whnf); repeat (refine ⟨rfl, ?_⟩; conv => arg 4; whnf)
    refine call0 awake18 (by (repeat' (first | with_reducible assumption | exact ClL.nil | exact Cl.int _ _ | exact Cl.bool _ | exact Cl.bl _ | exact Cl.bs _ | exact Cl.str _ | exact Cl.nils | exact Cl.nilp | exact Cl.rec _ | exact Cl.bat _ | exact Cl.recsV _ | exact Cl.strsV _ | exact Cl.intsV _ | exact Cl.req _ | exact Cl.rsp _ | exact Cl.reqA _ | exact Cl.rspA _ | exact Cl.batsV _ | exact Cl.prsV _ | exact Cl.atsV _ | exact Cl.entA _ _ | exact Cl.ent _ | exact Cl.rr _ _ | exact Cl.foundA _ | exact Cl.getB _ | exact Cl.encA _ | exact Cl.firstA _ | refine ClL.cons ?_ ?_ | refine Cl.tup ?_ | refine Cl.agg ?_ | exact ClO.RO _ _))) (by (repeat' (first | with_reducible assumption | exact ClL.nil | exact Cl.int _ _ | exact Cl.bool _ | exact Cl.bl _ | exact Cl.bs _ | exact Cl.str _ | exact Cl.nils | exact Cl.nilp | exact Cl.rec _ | exact Cl.bat _ | exact Cl.recsV _ | exact Cl.strsV _ | exact Cl.intsV _ | exact Cl.req _ | exact Cl.rsp _ | exact Cl.reqA _ | exact Cl.rspA _ | exact Cl.batsV _ | exact Cl.prsV _ | exact Cl.atsV _ | exact Cl.entA _ _ | exact Cl.ent _ | exact Cl.rr _ _ | exact Cl.foundA _ | exact Cl.getB _ | exact Cl.encA _ | exact Cl.firstA _ | refine ClL.cons ?_ ?_ | refine Cl.tup ?_ | refine Cl.agg ?_ | exact ClO.RO _ _))) ?_
    (conv => arg 4; whnf); repeat (refine ⟨rfl, ?_⟩; conv => arg 4; whnf)
    exact .inl rfl
  · have h : b = true := by simpa using h
    obtain ⟨hl80, hlit⟩ := hb h
    (conv => arg 4; whnf); repeat (refine ⟨rfl, ?_⟩; conv => arg 4; whnf)
    refine holds_out [] cmNew rfl trivial rfl ?_
    (conv => arg 4; whnf); repeat (refine ⟨rfl, ?_⟩; conv => arg 4; whnf)
    refine holds_out [] cmNew rfl trivial rfl ?_
    (conv => arg 4; whnf); repeat (refine ⟨rfl, ?_⟩; conv => arg 4; whnf)
    refine holds_out [] cmNew rfl trivial rfl ?_
    (conv => arg 4; whnf); repeat (refine ⟨rfl, ?_⟩; conv => arg 4; whnf)
    refine tri_loopG (ι := BkI l) (fun x => ⟨[(7, .int .i64 x.i), (6, .sl (.tok 9 x.s) 6 (opsL x.ops)), (5, .ptr 8 0), (4, .ptr 5 0), (3, .ptr 2 0), (0, stpsV l)], (9, .tip x.s) :: H3 (runM x.ops) (runM x.ops) [] (runF x.ops) (runF x.ops) [], 10, 229⟩) (fun x => l.length - x.i) ⟨0, [], 0, Nat.zero_le _, Nat.le_refl _, (fun p hp => by cases hp), trivial⟩ (WkG.tok rfl rfl ⟨Le.refl _ _, Le.nilsTok rfl, Le.refl _ _, Le.refl _ _, Le.refl _ _, Le.refl _ _, trivial⟩ ⟨⟨_, rfl, rfl⟩, ⟨_, rfl, LeO.refl _ _⟩, ⟨_, rfl, LeO.refl _ _⟩, ⟨_, rfl, LeO.refl _ _⟩, ⟨_, rfl, LeO.refl _ _⟩, ⟨_, rfl, LeO.refl _ _⟩, ⟨_, rfl, LeO.refl _ _⟩, ⟨_, rfl, LeO.refl _ _⟩, ⟨_, rfl, LeO.refl _ _⟩, ⟨_, rfl, LeO.refl _ _⟩, trivial⟩ ⟨rfl, rfl, rfl, rfl, rfl, Cl.stpsV _ _, trivial⟩ ⟨⟨by decide, rfl⟩, ⟨by decide, rfl⟩, ⟨by decide, rfl⟩, ⟨by decide, rfl⟩, ⟨by decide, rfl⟩, ⟨by decide, rfl⟩, ⟨by decide, rfl⟩, ⟨by decide, rfl⟩, ⟨by decide, rfl⟩, ⟨by decide, rfl⟩, trivial⟩) ?_
    rintro ⟨i, ops, s, hi, hlen, hok, hasc⟩
    dsimp only
    conv => arg 4; whnf
    refine ⟨fun hlt => ?_, fun hlt => ?_⟩
    · have hlt : i < l.length := by rw [stps_length] at hlt; simp at hlt; omega
      obtain ⟨x, hx⟩ : ∃ x, l[i]? = some x := ⟨_, List.getElem?_eq_getElem hlt⟩
      have hxl := hlit x (List.mem_of_getElem? hx)
      (conv => arg 4; whnf); repeat (refine ⟨rfl, ?_⟩; conv => arg 4; whnf)
      refine ⟨x.av, ⟨by omega, stps_get hx⟩, ?_⟩
      (conv => arg 4; whnf); repeat (refine ⟨rfl, ?_⟩; conv => arg 4; whnf)
      refine ⟨x.av, ctxP_of ⟨by omega, stps_get hx⟩, ?_⟩
      conv => arg 4; whnf
      refine ⟨fun hk1 => ?_, fun hk1 => ?_⟩
      · have hk1 : x.kind = 1 := by simpa using hk1
        (conv => arg 4; whnf); repeat (refine ⟨rfl, ?_⟩; conv => arg 4; whnf)
        refine call0 (made18 (e := x.e)) (ClL.cons (Cl.ent x.e) ClL.nil) (Cl.ent x.e) ?_
        (conv => arg 4; whnf); repeat (refine ⟨rfl, ?_⟩; conv => arg 4; whnf)
        by_cases hm : mayE x.e = true
        · refine callTab 0 1 2 (cmPutOk (m := runM ops) (f := runF ops) hm) rfl rfl rfl rfl rfl rfl rfl (argsT (Cl.ent x.e)) rfl ?_
          (conv => arg 4; whnf); repeat (refine ⟨rfl, ?_⟩; conv => arg 4; whnf)
          refine ⟨fun _ => ?_, fun h' => absurd h' (by decide)⟩
          (conv => arg 4; whnf); repeat (refine ⟨rfl, ?_⟩; conv => arg 4; whnf)
          refine ⟨x.av, ⟨by omega, stps_get hx⟩, ?_⟩
          (conv => arg 4; whnf); repeat (refine ⟨rfl, ?_⟩; conv => arg 4; whnf)
          refine call0 (made18 (e := x.e)) (ClL.cons (Cl.ent x.e) ClL.nil) (Cl.ent x.e) ?_
          (conv => arg 4; whnf); repeat (refine ⟨rfl, ?_⟩; conv => arg 4; whnf)
          refine call0 (cmRecordOk (e := x.e) (now := (i : Int)) hm (now18 (by omega))) (ClL.cons (Cl.ent x.e) (ClL.cons (Cl.int _ _) ClL.nil)) (Cl.tup (ClL.cons (Cl.rec _) (ClL.cons (Cl.int _ _) ClL.nil))) ?_
          (conv => arg 4; whnf); repeat (refine ⟨rfl, ?_⟩; conv => arg 4; whnf)
          refine ⟨fun h' => absurd h' (by decide), fun _ => ?_⟩
          (conv => arg 4; whnf); repeat (refine ⟨rfl, ?_⟩; conv => arg 4; whnf)
          refine callTab 3 4 5 (applyOp (m := runM ops) (f := runF ops) (p := .o x.e i) hm) rfl rfl rfl rfl rfl rfl rfl (argsU (Cl.rec _)) rfl ?_
          (conv => arg 4; whnf); repeat (refine ⟨rfl, ?_⟩; conv => arg 4; whnf)
          refine ⟨fun h' => absurd h' (by decide), fun _ => ?_⟩
          (conv => arg 4; whnf); repeat (refine ⟨rfl, ?_⟩; conv => arg 4; whnf)
          refine ⟨⟨rfl, sizeOk 80 rfl ?_⟩, ?_⟩
          · rw [List.length_append, recs_length, List.length_map]; simp only [List.length_cons, List.length_nil]; omega
          (conv => arg 4; whnf); repeat (refine ⟨rfl, ?_⟩; conv => arg 4; whnf)
          refine ⟨x.av, ⟨by omega, stps_get hx⟩, ?_⟩
          (conv => arg 4; whnf); repeat (refine ⟨rfl, ?_⟩; conv => arg 4; whnf)
          refine ⟨fun h' => absurd h' (by rw [hk1]; decide), fun _ => ?_⟩
          (conv => arg 4; whnf); repeat (refine ⟨rfl, ?_⟩; conv => arg 4; whnf)
          exact ⟨⟨i + 1, ops ++ [.o x.e i], s + 1, by omega, by rw [List.length_append, List.length_singleton]; omega, fun q hq => by
          rcases List.mem_append.1 hq with hq | hq
          · exact hok q hq
          · rw [List.mem_singleton.1 hq]; exact hm, asc_snoc hasc (trivial)⟩, by show l.length - (i + 1) < l.length - i; omega, WkG.of rfl rfl ⟨Le.of_eq (succ18 (by omega)), Le.of_eq (congrArg (AV.sl (.tok 9 (s + 1)) 6) (ops_snoc ops (.o x.e i))), Le.refl _ _, Le.refl _ _, Le.refl _ _, Le.refl _ _, trivial⟩ ⟨⟨_, rfl, LeO.refl _ _⟩, ⟨_, rfl, LeO.refl _ _⟩, ⟨_, rfl, LeO.refl _ _⟩, ⟨_, rfl, LeO.refl _ _⟩, ⟨_, rfl, LeO.refl _ _⟩, ⟨_, rfl, show fE _ = fE _ by rw [runF_snoc] <;> rfl⟩, ⟨_, rfl, show mE _ = mE _ by rw [runM_snoc] <;> rfl⟩, ⟨_, rfl, LeO.refl _ _⟩, ⟨_, rfl, show fE _ = fE _ by rw [runF_snoc] <;> rfl⟩, ⟨_, rfl, show mE _ = mE _ by rw [runM_snoc] <;> rfl⟩, trivial⟩ ⟨rfl, cut_ops _ _ _, rfl, rfl, rfl, Cl.stpsV _ _, trivial⟩ ⟨⟨by decide, rfl⟩, ⟨by decide, rfl⟩, ⟨by decide, ClO.fE _ _⟩, ⟨by decide, ClO.mE _ _⟩, ⟨by decide, rfl⟩, ⟨by decide, ClO.fE _ _⟩, ⟨by decide, ClO.mE _ _⟩, ⟨by decide, rfl⟩, ⟨by decide, ClO.fE _ _⟩, ⟨by decide, ClO.mE _ _⟩, trivial⟩⟩
        · have hm : mayE x.e = false := by simpa using hm
          refine callTab 0 1 2 (cmPutNo (m := runM ops) (f := runF ops) hm (by have := hxl.1; omega) (by have := hxl.2; omega)) rfl rfl rfl rfl rfl rfl rfl (argsT (Cl.ent x.e)) rfl ?_
          (conv => arg 4; whnf); repeat (refine ⟨rfl, ?_⟩; conv => arg 4; whnf)
          refine ⟨fun h' => absurd h' (by decide), fun _ => ?_⟩
          (conv => arg 4; whnf); repeat (refine ⟨rfl, ?_⟩; conv => arg 4; whnf)
          refine ⟨x.av, ⟨by omega, stps_get hx⟩, ?_⟩
          (conv => arg 4; whnf); repeat (refine ⟨rfl, ?_⟩; conv => arg 4; whnf)
          refine ⟨fun h' => absurd h' (by rw [hk1]; decide), fun _ => ?_⟩
          (conv => arg 4; whnf); repeat (refine ⟨rfl, ?_⟩; conv => arg 4; whnf)
          exact ⟨⟨i + 1, ops, s, by omega, by omega, hok, hasc⟩, by show l.length - (i + 1) < l.length - i; omega, WkG.of rfl rfl ⟨Le.of_eq (succ18 (by omega)), Le.refl _ _, Le.refl _ _, Le.refl _ _, Le.refl _ _, Le.refl _ _, trivial⟩ ⟨⟨_, rfl, LeO.refl _ _⟩, ⟨_, rfl, LeO.refl _ _⟩, ⟨_, rfl, LeO.refl _ _⟩, ⟨_, rfl, LeO.refl _ _⟩, ⟨_, rfl, LeO.refl _ _⟩, ⟨_, rfl, LeO.refl _ _⟩, ⟨_, rfl, LeO.refl _ _⟩, ⟨_, rfl, LeO.refl _ _⟩, ⟨_, rfl, LeO.refl _ _⟩, ⟨_, rfl, LeO.refl _ _⟩, trivial⟩ ⟨rfl, cut_ops _ _ _, rfl, rfl, rfl, Cl.stpsV _ _, trivial⟩ ⟨⟨by decide, rfl⟩, ⟨by decide, rfl⟩, ⟨by decide, ClO.fE _ _⟩, ⟨by decide, ClO.mE _ _⟩, ⟨by decide, rfl⟩, ⟨by decide, ClO.fE _ _⟩, ⟨by decide, ClO.mE _ _⟩, ⟨by decide, rfl⟩, ⟨by decide, ClO.fE _ _⟩, ⟨by decide, ClO.mE _ _⟩, trivial⟩⟩
      · (conv => arg 4; whnf); repeat (refine ⟨rfl, ?_⟩; conv => arg 4; whnf)
        refine ⟨x.av, ⟨by omega, stps_get hx⟩, ?_⟩
        (conv => arg 4; whnf); repeat (refine ⟨rfl, ?_⟩; conv => arg 4; whnf)
        refine ⟨fun hk2 => ?_, fun hk2 => ?_⟩
        · (conv => arg 4; whnf); repeat (refine ⟨rfl, ?_⟩; conv => arg 4; whnf)
          refine ⟨x.av, ⟨by omega, stps_get hx⟩, ?_⟩
          (conv => arg 4; whnf); repeat (refine ⟨rfl, ?_⟩; conv => arg 4; whnf)
          refine ⟨x.av, ⟨by omega, stps_get hx⟩, ?_⟩
          (conv => arg 4; whnf); repeat (refine ⟨rfl, ?_⟩; conv => arg 4; whnf)
          refine callTab 0 1 2 (cmFloor (m := runM ops) (f := runF ops) (g := x.e.g)) rfl rfl rfl rfl rfl rfl rfl rfl rfl ?_
          (conv => arg 4; whnf); repeat (refine ⟨rfl, ?_⟩; conv => arg 4; whnf)
          refine ⟨fun hgt => ?_, fun hgt => ?_⟩
          · have hgt : (findM (runF ops) x.e.g).getD 0 < x.n := by simpa using hgt
            have hn0 : 0 < x.n := by have := floor_nn (k := x.e.g) hok hasc; omega
            (conv => arg 4; whnf); repeat (refine ⟨rfl, ?_⟩; conv => arg 4; whnf)
            refine ⟨x.av, ⟨by omega, stps_get hx⟩, ?_⟩
            (conv => arg 4; whnf); repeat (refine ⟨rfl, ?_⟩; conv => arg 4; whnf)
            refine ⟨x.av, ⟨by omega, stps_get hx⟩, ?_⟩
            (conv => arg 4; whnf); repeat (refine ⟨rfl, ?_⟩; conv => arg 4; whnf)
            by_cases hm : mayG x.e.g x.n = true
            · refine callTab 0 1 2 (cmGenOk (m := runM ops) (f := runF ops) hm) rfl rfl rfl rfl rfl rfl rfl rfl rfl ?_
              (conv => arg 4; whnf); repeat (refine ⟨rfl, ?_⟩; conv => arg 4; whnf)
              refine ⟨fun _ => ?_, fun h' => absurd h' (by decide)⟩
              (conv => arg 4; whnf); repeat (refine ⟨rfl, ?_⟩; conv => arg 4; whnf)
              refine ⟨x.av, ⟨by omega, stps_get hx⟩, ?_⟩
              (conv => arg 4; whnf); repeat (refine ⟨rfl, ?_⟩; conv => arg 4; whnf)
              refine ⟨x.av, ⟨by omega, stps_get hx⟩, ?_⟩
              (conv => arg 4; whnf); repeat (refine ⟨rfl, ?_⟩; conv => arg 4; whnf)
              refine call0 (cmGenRecordOk (g := x.e.g) (n := x.n) (now := (i : Int)) hm (now18 (by omega))) (ClL.cons (Cl.str _) (ClL.cons (Cl.int _ _) (ClL.cons (Cl.int _ _) ClL.nil))) (Cl.tup (ClL.cons (Cl.rec _) (ClL.cons (Cl.int _ _) ClL.nil))) ?_
              (conv => arg 4; whnf); repeat (refine ⟨rfl, ?_⟩; conv => arg 4; whnf)
              refine ⟨fun h' => absurd h' (by decide), fun _ => ?_⟩
              (conv => arg 4; whnf); repeat (refine ⟨rfl, ?_⟩; conv => arg 4; whnf)
              refine callTab 3 4 5 (applyOp (m := runM ops) (f := runF ops) (p := .g x.e.g x.n i) ⟨hm, hn0⟩) rfl rfl rfl rfl rfl rfl rfl (argsU (Cl.rec _)) rfl ?_
              (conv => arg 4; whnf); repeat (refine ⟨rfl, ?_⟩; conv => arg 4; whnf)
              refine ⟨fun h' => absurd h' (by decide), fun _ => ?_⟩
              (conv => arg 4; whnf); repeat (refine ⟨rfl, ?_⟩; conv => arg 4; whnf)
              refine ⟨⟨rfl, sizeOk 80 rfl ?_⟩, ?_⟩
              · rw [List.length_append, recs_length, List.length_map]; simp only [List.length_cons, List.length_nil]; omega
              (conv => arg 4; whnf); repeat (refine ⟨rfl, ?_⟩; conv => arg 4; whnf)
              exact ⟨⟨i + 1, ops ++ [.g x.e.g x.n i], s + 1, by omega, by rw [List.length_append, List.length_singleton]; omega, fun q hq => by
          rcases List.mem_append.1 hq with hq | hq
          · exact hok q hq
          · rw [List.mem_singleton.1 hq]; exact ⟨hm, hn0⟩, asc_snoc hasc (by show (findM (runF ops) x.e.g).getD 0 ≤ x.n; omega)⟩, by show l.length - (i + 1) < l.length - i; omega, WkG.of rfl rfl ⟨Le.of_eq (succ18 (by omega)), Le.of_eq (congrArg (AV.sl (.tok 9 (s + 1)) 6) (ops_snoc ops (.g x.e.g x.n i))), Le.refl _ _, Le.refl _ _, Le.refl _ _, Le.refl _ _, trivial⟩ ⟨⟨_, rfl, LeO.refl _ _⟩, ⟨_, rfl, LeO.refl _ _⟩, ⟨_, rfl, LeO.refl _ _⟩, ⟨_, rfl, LeO.refl _ _⟩, ⟨_, rfl, LeO.refl _ _⟩, ⟨_, rfl, show fE _ = fE _ by rw [runF_snoc] <;> rfl⟩, ⟨_, rfl, show mE _ = mE _ by rw [runM_snoc] <;> rfl⟩, ⟨_, rfl, LeO.refl _ _⟩, ⟨_, rfl, show fE _ = fE _ by rw [runF_snoc] <;> rfl⟩, ⟨_, rfl, show mE _ = mE _ by rw [runM_snoc] <;> rfl⟩, trivial⟩ ⟨rfl, cut_ops _ _ _, rfl, rfl, rfl, Cl.stpsV _ _, trivial⟩ ⟨⟨by decide, rfl⟩, ⟨by decide, rfl⟩, ⟨by decide, ClO.fE _ _⟩, ⟨by decide, ClO.mE _ _⟩, ⟨by decide, rfl⟩, ⟨by decide, ClO.fE _ _⟩, ⟨by decide, ClO.mE _ _⟩, ⟨by decide, rfl⟩, ⟨by decide, ClO.fE _ _⟩, ⟨by decide, ClO.mE _ _⟩, trivial⟩⟩
            · have hm : mayG x.e.g x.n = false := by simpa using hm
              refine callTab 0 1 2 (cmGenNo (m := runM ops) (f := runF ops) hm (by have := hxl.1; omega)) rfl rfl rfl rfl rfl rfl rfl rfl rfl ?_
              (conv => arg 4; whnf); repeat (refine ⟨rfl, ?_⟩; conv => arg 4; whnf)
              refine ⟨fun h' => absurd h' (by decide), fun _ => ?_⟩
              (conv => arg 4; whnf); repeat (refine ⟨rfl, ?_⟩; conv => arg 4; whnf)
              exact ⟨⟨i + 1, ops, s, by omega, by omega, hok, hasc⟩, by show l.length - (i + 1) < l.length - i; omega, WkG.of rfl rfl ⟨Le.of_eq (succ18 (by omega)), Le.refl _ _, Le.refl _ _, Le.refl _ _, Le.refl _ _, Le.refl _ _, trivial⟩ ⟨⟨_, rfl, LeO.refl _ _⟩, ⟨_, rfl, LeO.refl _ _⟩, ⟨_, rfl, LeO.refl _ _⟩, ⟨_, rfl, LeO.refl _ _⟩, ⟨_, rfl, LeO.refl _ _⟩, ⟨_, rfl, LeO.refl _ _⟩, ⟨_, rfl, LeO.refl _ _⟩, ⟨_, rfl, LeO.refl _ _⟩, ⟨_, rfl, LeO.refl _ _⟩, ⟨_, rfl, LeO.refl _ _⟩, trivial⟩ ⟨rfl, cut_ops _ _ _, rfl, rfl, rfl, Cl.stpsV _ _, trivial⟩ ⟨⟨by decide, rfl⟩, ⟨by decide, rfl⟩, ⟨by decide, ClO.fE _ _⟩, ⟨by decide, ClO.mE _ _⟩, ⟨by decide, rfl⟩, ⟨by decide, ClO.fE _ _⟩, ⟨by decide, ClO.mE _ _⟩, ⟨by decide, rfl⟩, ⟨by decide, ClO.fE _ _⟩, ⟨by decide, ClO.mE _ _⟩, trivial⟩⟩
          · (conv => arg 4; whnf); repeat (refine ⟨rfl, ?_⟩; conv => arg 4; whnf)
            exact ⟨⟨i + 1, ops, s, by omega, by omega, hok, hasc⟩, by show l.length - (i + 1) < l.length - i; omega, WkG.of rfl rfl ⟨Le.of_eq (succ18 (by omega)), Le.refl _ _, Le.refl _ _, Le.refl _ _, Le.refl _ _, Le.refl _ _, trivial⟩ ⟨⟨_, rfl, LeO.refl _ _⟩, ⟨_, rfl, LeO.refl _ _⟩, ⟨_, rfl, LeO.refl _ _⟩, ⟨_, rfl, LeO.refl _ _⟩, ⟨_, rfl, LeO.refl _ _⟩, ⟨_, rfl, LeO.refl _ _⟩, ⟨_, rfl, LeO.refl _ _⟩, ⟨_, rfl, LeO.refl _ _⟩, ⟨_, rfl, LeO.refl _ _⟩, ⟨_, rfl, LeO.refl _ _⟩, trivial⟩ ⟨rfl, cut_ops _ _ _, rfl, rfl, rfl, Cl.stpsV _ _, trivial⟩ ⟨⟨by decide, rfl⟩, ⟨by decide, rfl⟩, ⟨by decide, ClO.fE _ _⟩, ⟨by decide, ClO.mE _ _⟩, ⟨by decide, rfl⟩, ⟨by decide, ClO.fE _ _⟩, ⟨by decide, ClO.mE _ _⟩, ⟨by decide, rfl⟩, ⟨by decide, ClO.fE _ _⟩, ⟨by decide, ClO.mE _ _⟩, trivial⟩⟩
        · (conv => arg 4; whnf); repeat (refine ⟨rfl, ?_⟩; conv => arg 4; whnf)
          exact ⟨⟨i + 1, ops, s, by omega, by omega, hok, hasc⟩, by show l.length - (i + 1) < l.length - i; omega, WkG.of rfl rfl ⟨Le.of_eq (succ18 (by omega)), Le.refl _ _, Le.refl _ _, Le.refl _ _, Le.refl _ _, Le.refl _ _, trivial⟩ ⟨⟨_, rfl, LeO.refl _ _⟩, ⟨_, rfl, LeO.refl _ _⟩, ⟨_, rfl, LeO.refl _ _⟩, ⟨_, rfl, LeO.refl _ _⟩, ⟨_, rfl, LeO.refl _ _⟩, ⟨_, rfl, LeO.refl _ _⟩, ⟨_, rfl, LeO.refl _ _⟩, ⟨_, rfl, LeO.refl _ _⟩, ⟨_, rfl, LeO.refl _ _⟩, ⟨_, rfl, LeO.refl _ _⟩, trivial⟩ ⟨rfl, cut_ops _ _ _, rfl, rfl, rfl, Cl.stpsV _ _, trivial⟩ ⟨⟨by decide, rfl⟩, ⟨by decide, rfl⟩, ⟨by decide, ClO.fE _ _⟩, ⟨by decide, ClO.mE _ _⟩, ⟨by decide, rfl⟩, ⟨by decide, ClO.fE _ _⟩, ⟨by decide, ClO.mE _ _⟩, ⟨by decide, rfl⟩, ⟨by decide, ClO.fE _ _⟩, ⟨by decide, ClO.mE _ _⟩, trivial⟩⟩
    · have hlt : i = l.length := by rw [stps_length] at hlt; simp at hlt; omega
      (conv => arg 4; whnf); repeat (refine ⟨rfl, ?_⟩; conv => arg 4; whnf)
      refine fin_exit ?_
      show holds _ _ _ _
      conv => arg 4; whnf
      refine tri_loopG (ι := VkI ops) (fun x => ⟨[(12, .int .i64 x.i), (6, .sl (.tok 9 s) 6 (opsL ops)), (5, .ptr 8 0), (4, .ptr 5 0), (3, .ptr 2 0)], (9, .tip s) :: H3 (runM ops) (runM ops) (runM (lastsN ops x.i)) (runF ops) (runF ops) (runF (lastsN ops x.i)), 10, 229⟩) (fun x => ops.length - x.i) ⟨0, Nat.zero_le _⟩ ?_ ?_
      · refine WkG.of rfl rfl ⟨Le.refl _ _, Le.refl _ _, Le.refl _ _, Le.refl _ _, Le.refl _ _, trivial⟩ ⟨⟨_, rfl, LeO.refl _ _⟩, ⟨_, rfl, LeO.refl _ _⟩, ⟨_, rfl, ?_⟩, ⟨_, rfl, ?_⟩, ⟨_, rfl, LeO.refl _ _⟩, ⟨_, rfl, LeO.refl _ _⟩, ⟨_, rfl, LeO.refl _ _⟩, ⟨_, rfl, LeO.refl _ _⟩, ⟨_, rfl, LeO.refl _ _⟩, ⟨_, rfl, LeO.refl _ _⟩, trivial⟩ ⟨rfl, cut_ops _ _ _, rfl, rfl, rfl, trivial⟩ ⟨⟨by decide, rfl⟩, ⟨by decide, rfl⟩, ⟨by decide, ClO.fE _ _⟩, ⟨by decide, ClO.mE _ _⟩, ⟨by decide, rfl⟩, ⟨by decide, ClO.fE _ _⟩, ⟨by decide, ClO.mE _ _⟩, ⟨by decide, rfl⟩, ⟨by decide, ClO.fE _ _⟩, ⟨by decide, ClO.mE _ _⟩, trivial⟩
        · rw [lastsN_zero]; exact LeO.refl _ _
        · rw [lastsN_zero]; exact LeO.refl _ _
      have hol : ops.length ≤ 80 := by omega
      clear hlt hi hlen
      rintro ⟨i, hi⟩
      dsimp only
      conv => arg 4; whnf
      refine ⟨fun hlt => ?_, fun hlt => ?_⟩
      · have hlt : i < ops.length := by rw [recs_length, List.length_map] at hlt; simp at hlt; omega
        obtain ⟨p, hp⟩ : ∃ p, ops[i]? = some p := ⟨_, List.getElem?_eq_getElem hlt⟩
        (conv => arg 4; whnf); repeat (refine ⟨rfl, ?_⟩; conv => arg 4; whnf)
        have hk0 : IntKind.i64.wrap ((i : Int) + 1) = ((i + 1 : Nat) : Int) := by rw [IntKind.wrap_i64]; omega
        refine tri_loopG (ι := KeI ops i) (fun x => ⟨[(14, .int .i64 x.k), (13, .bool (keyAll ops i p x.k)), (12, .int .i64 i), (6, .sl (.tok 9 s) 6 (opsL ops)), (5, .ptr 8 0), (4, .ptr 5 0), (3, .ptr 2 0)], (9, .tip s) :: H3 (runM ops) (runM ops) (runM (lastsN ops i)) (runF ops) (runF ops) (runF (lastsN ops i)), 10, 229⟩) (fun x => ops.length - x.k) ⟨i + 1, Nat.le_refl _, hlt⟩ (WkG.of rfl rfl ⟨Le.of_eq (congrArg (AV.int .i64) hk0), Le.blOf (keyAll_start ops i p).symm, Le.refl _ _, Le.refl _ _, Le.refl _ _, Le.refl _ _, Le.refl _ _, trivial⟩ ⟨⟨_, rfl, LeO.refl _ _⟩, ⟨_, rfl, LeO.refl _ _⟩, ⟨_, rfl, LeO.refl _ _⟩, ⟨_, rfl, LeO.refl _ _⟩, ⟨_, rfl, LeO.refl _ _⟩, ⟨_, rfl, LeO.refl _ _⟩, ⟨_, rfl, LeO.refl _ _⟩, ⟨_, rfl, LeO.refl _ _⟩, ⟨_, rfl, LeO.refl _ _⟩, ⟨_, rfl, LeO.refl _ _⟩, trivial⟩ ⟨rfl, rfl, rfl, cut_ops _ _ _, rfl, rfl, rfl, trivial⟩ ⟨⟨by decide, rfl⟩, ⟨by decide, rfl⟩, ⟨by decide, ClO.fE _ _⟩, ⟨by decide, ClO.mE _ _⟩, ⟨by decide, rfl⟩, ⟨by decide, ClO.fE _ _⟩, ⟨by decide, ClO.mE _ _⟩, ⟨by decide, rfl⟩, ⟨by decide, ClO.fE _ _⟩, ⟨by decide, ClO.mE _ _⟩, trivial⟩) ?_
        rintro ⟨k, hk1, hk2⟩
        dsimp only
        conv => arg 4; whnf
        refine ⟨fun hklt => ?_, fun hklt => ?_⟩
        · have hklt : k < ops.length := by rw [recs_length, List.length_map] at hklt; simp at hklt; omega
          obtain ⟨q, hq⟩ : ∃ q, ops[k]? = some q := ⟨_, List.getElem?_eq_getElem hklt⟩
          (conv => arg 4; whnf); repeat (refine ⟨rfl, ?_⟩; conv => arg 4; whnf)
          refine ⟨fun hb => ?_, fun hb => ?_⟩
          · (conv => arg 4; whnf); repeat (refine ⟨rfl, ?_⟩; conv => arg 4; whnf)
            refine ⟨q.rec'.av, ⟨by omega, ops_get hq⟩, ?_⟩
            (conv => arg 4; whnf); repeat (refine ⟨rfl, ?_⟩; conv => arg 4; whnf)
            refine ⟨q.rec'.key, rfl, ?_⟩
            (conv => arg 4; whnf); repeat (refine ⟨rfl, ?_⟩; conv => arg 4; whnf)
            refine ⟨p.rec'.av, ⟨by omega, ops_get hp⟩, ?_⟩
            (conv => arg 4; whnf); repeat (refine ⟨rfl, ?_⟩; conv => arg 4; whnf)
            refine ⟨p.rec'.key, rfl, ?_⟩
            (conv => arg 4; whnf); repeat (refine ⟨rfl, ?_⟩; conv => arg 4; whnf)
            exact ⟨⟨k + 1, by omega, by omega⟩, by show ops.length - (k + 1) < ops.length - k; omega, WkG.of rfl rfl ⟨Le.of_eq (succ18 (by omega)), Le.of_eq (congrArg AV.bool (key_cmp hk1 hq hb)), Le.refl _ _, Le.refl _ _, Le.refl _ _, Le.refl _ _, Le.refl _ _, trivial⟩ ⟨⟨_, rfl, LeO.refl _ _⟩, ⟨_, rfl, LeO.refl _ _⟩, ⟨_, rfl, LeO.refl _ _⟩, ⟨_, rfl, LeO.refl _ _⟩, ⟨_, rfl, LeO.refl _ _⟩, ⟨_, rfl, LeO.refl _ _⟩, ⟨_, rfl, LeO.refl _ _⟩, ⟨_, rfl, LeO.refl _ _⟩, ⟨_, rfl, LeO.refl _ _⟩, ⟨_, rfl, LeO.refl _ _⟩, trivial⟩ ⟨rfl, rfl, rfl, cut_ops _ _ _, rfl, rfl, rfl, trivial⟩ ⟨⟨by decide, rfl⟩, ⟨by decide, rfl⟩, ⟨by decide, ClO.fE _ _⟩, ⟨by decide, ClO.mE _ _⟩, ⟨by decide, rfl⟩, ⟨by decide, ClO.fE _ _⟩, ⟨by decide, ClO.mE _ _⟩, ⟨by decide, rfl⟩, ⟨by decide, ClO.fE _ _⟩, ⟨by decide, ClO.mE _ _⟩, trivial⟩⟩
          · (conv => arg 4; whnf); repeat (refine ⟨rfl, ?_⟩; conv => arg 4; whnf)
            exact ⟨⟨k + 1, by omega, by omega⟩, by show ops.length - (k + 1) < ops.length - k; omega, WkG.of rfl rfl ⟨Le.of_eq (succ18 (by omega)), Le.blOf (by rw [keyAll_step hk1 hq, hb]; rfl), Le.refl _ _, Le.refl _ _, Le.refl _ _, Le.refl _ _, Le.refl _ _, trivial⟩ ⟨⟨_, rfl, LeO.refl _ _⟩, ⟨_, rfl, LeO.refl _ _⟩, ⟨_, rfl, LeO.refl _ _⟩, ⟨_, rfl, LeO.refl _ _⟩, ⟨_, rfl, LeO.refl _ _⟩, ⟨_, rfl, LeO.refl _ _⟩, ⟨_, rfl, LeO.refl _ _⟩, ⟨_, rfl, LeO.refl _ _⟩, ⟨_, rfl, LeO.refl _ _⟩, ⟨_, rfl, LeO.refl _ _⟩, trivial⟩ ⟨rfl, rfl, rfl, cut_ops _ _ _, rfl, rfl, rfl, trivial⟩ ⟨⟨by decide, rfl⟩, ⟨by decide, rfl⟩, ⟨by decide, ClO.fE _ _⟩, ⟨by decide, ClO.mE _ _⟩, ⟨by decide, rfl⟩, ⟨by decide, ClO.fE _ _⟩, ⟨by decide, ClO.mE _ _⟩, ⟨by decide, rfl⟩, ⟨by decide, ClO.fE _ _⟩, ⟨by decide, ClO.mE _ _⟩, trivial⟩⟩
        · have hklt : k = ops.length := by rw [recs_length, List.length_map] at hklt; simp at hklt; omega
          (conv => arg 4; whnf); repeat (refine ⟨rfl, ?_⟩; conv => arg 4; whnf)
          refine fin_exit ?_
          show holds _ _ _ _
          conv => arg 4; whnf
          refine ⟨p.rec'.av, ctxP_of ⟨by omega, ops_get hp⟩, ?_⟩
          conv => arg 4; whnf
          subst hklt
          refine ⟨fun hb => ?_, fun hb => ?_⟩
          · have hb : (ops.drop (i + 1)).all (fun q => decide (q.key ≠ p.key)) = true := by rw [← keyAll_end]; exact hb
            (conv => arg 4; whnf); repeat (refine ⟨rfl, ?_⟩; conv => arg 4; whnf)
            refine callTab 6 7 8 (applyOp (m := runM (lastsN ops i)) (f := runF (lastsN ops i)) (p := p) (hok p (List.mem_of_getElem? hp))) rfl rfl rfl rfl rfl rfl rfl (argsU (Cl.rec _)) rfl ?_
            (conv => arg 4; whnf); repeat (refine ⟨rfl, ?_⟩; conv => arg 4; whnf)
            refine ⟨fun h' => absurd h' (by decide), fun _ => ?_⟩
            (conv => arg 4; whnf); repeat (refine ⟨rfl, ?_⟩; conv => arg 4; whnf)
            exact ⟨⟨i + 1, hlt⟩, by show ops.length - (i + 1) < ops.length - i; omega, WkG.of rfl rfl ⟨Le.of_eq (succ18 (by omega)), Le.refl _ _, Le.refl _ _, Le.refl _ _, Le.refl _ _, trivial⟩ ⟨⟨_, rfl, LeO.refl _ _⟩, ⟨_, rfl, LeO.refl _ _⟩, ⟨_, rfl, show fE _ = fE _ by rw [lastsN_step hp, if_pos hb, runF_snoc]⟩, ⟨_, rfl, show mE _ = mE _ by rw [lastsN_step hp, if_pos hb, runM_snoc]⟩, ⟨_, rfl, LeO.refl _ _⟩, ⟨_, rfl, LeO.refl _ _⟩, ⟨_, rfl, LeO.refl _ _⟩, ⟨_, rfl, LeO.refl _ _⟩, ⟨_, rfl, LeO.refl _ _⟩, ⟨_, rfl, LeO.refl _ _⟩, trivial⟩ ⟨rfl, cut_ops _ _ _, rfl, rfl, rfl, trivial⟩ ⟨⟨by decide, rfl⟩, ⟨by decide, rfl⟩, ⟨by decide, ClO.fE _ _⟩, ⟨by decide, ClO.mE _ _⟩, ⟨by decide, rfl⟩, ⟨by decide, ClO.fE _ _⟩, ⟨by decide, ClO.mE _ _⟩, ⟨by decide, rfl⟩, ⟨by decide, ClO.fE _ _⟩, ⟨by decide, ClO.mE _ _⟩, trivial⟩⟩
          · have hb : ¬ (ops.drop (i + 1)).all (fun q => decide (q.key ≠ p.key)) = true := by rw [← keyAll_end, hb]; decide
            (conv => arg 4; whnf); repeat (refine ⟨rfl, ?_⟩; conv => arg 4; whnf)
            exact ⟨⟨i + 1, hlt⟩, by show ops.length - (i + 1) < ops.length - i; omega, WkG.of rfl rfl ⟨Le.of_eq (succ18 (by omega)), Le.refl _ _, Le.refl _ _, Le.refl _ _, Le.refl _ _, trivial⟩ ⟨⟨_, rfl, LeO.refl _ _⟩, ⟨_, rfl, LeO.refl _ _⟩, ⟨_, rfl, show fE _ = fE _ by rw [lastsN_step hp, if_neg hb, List.append_nil]⟩, ⟨_, rfl, show mE _ = mE _ by rw [lastsN_step hp, if_neg hb, List.append_nil]⟩, ⟨_, rfl, LeO.refl _ _⟩, ⟨_, rfl, LeO.refl _ _⟩, ⟨_, rfl, LeO.refl _ _⟩, ⟨_, rfl, LeO.refl _ _⟩, ⟨_, rfl, LeO.refl _ _⟩, ⟨_, rfl, LeO.refl _ _⟩, trivial⟩ ⟨rfl, cut_ops _ _ _, rfl, rfl, rfl, trivial⟩ ⟨⟨by decide, rfl⟩, ⟨by decide, rfl⟩, ⟨by decide, ClO.fE _ _⟩, ⟨by decide, ClO.mE _ _⟩, ⟨by decide, rfl⟩, ⟨by decide, ClO.fE _ _⟩, ⟨by decide, ClO.mE _ _⟩, ⟨by decide, rfl⟩, ⟨by decide, ClO.fE _ _⟩, ⟨by decide, ClO.mE _ _⟩, trivial⟩⟩
      · have hlt : i = ops.length := by rw [recs_length, List.length_map] at hlt; simp at hlt; omega
        subst hlt
        rw [lastsN_all]
        (conv => arg 4; whnf); repeat (refine ⟨rfl, ?_⟩; conv => arg 4; whnf)
        refine fin_exit ?_
        show holds _ _ _ _
        conv => arg 4; whnf
        refine call0 nilGet (by (repeat' (first | with_reducible assumption | exact ClL.nil | exact Cl.int _ _ | exact Cl.bool _ | exact Cl.bl _ | exact Cl.bs _ | exact Cl.str _ | exact Cl.nils | exact Cl.nilp | exact Cl.rec _ | exact Cl.bat _ | exact Cl.recsV _ | exact Cl.strsV _ | exact Cl.intsV _ | exact Cl.req _ | exact Cl.rsp _ | exact Cl.reqA _ | exact Cl.rspA _ | exact Cl.batsV _ | exact Cl.prsV _ | exact Cl.atsV _ | exact Cl.entA _ _ | exact Cl.ent _ | exact Cl.rr _ _ | exact Cl.foundA _ | exact Cl.getB _ | exact Cl.encA _ | exact Cl.firstA _ | refine ClL.cons ?_ ?_ | refine Cl.tup ?_ | refine Cl.agg ?_ | exact ClO.RO _ _))) (by (repeat' (first | with_reducible assumption | exact ClL.nil | exact Cl.int _ _ | exact Cl.bool _ | exact Cl.bl _ | exact Cl.bs _ | exact Cl.str _ | exact Cl.nils | exact Cl.nilp | exact Cl.rec _ | exact Cl.bat _ | exact Cl.recsV _ | exact Cl.strsV _ | exact Cl.intsV _ | exact Cl.req _ | exact Cl.rsp _ | exact Cl.reqA _ | exact Cl.rspA _ | exact Cl.batsV _ | exact Cl.prsV _ | exact Cl.atsV _ | exact Cl.entA _ _ | exact Cl.ent _ | exact Cl.rr _ _ | exact Cl.foundA _ | exact Cl.getB _ | exact Cl.encA _ | exact Cl.firstA _ | refine ClL.cons ?_ ?_ | refine Cl.tup ?_ | refine Cl.agg ?_ | exact ClO.RO _ _))) ?_
        (conv => arg 4; whnf); repeat (refine ⟨rfl, ?_⟩; conv => arg 4; whnf)
        refine callG [0, 1, 2, 3, 4, 5] (cmSame (m := runM ops) (m' := runM ops) (f := runF ops) (f' := runF ops) (once_runF _) (once_runF _)) rfl ⟨⟨by decide, rfl⟩, ⟨by decide, by rw [ClO.fE]; rfl⟩, ⟨by decide, by rw [ClO.mE]; rfl⟩, ⟨by decide, rfl⟩, ⟨by decide, by rw [ClO.fE]; rfl⟩, ⟨by decide, by rw [ClO.mE]; rfl⟩, trivial⟩ rfl (Cl.bool _ _) mrgTU ?_
        (conv => arg 4; whnf); repeat (refine ⟨rfl, ?_⟩; conv => arg 4; whnf)
        have b1 : (eqMp (runM ops) (runM ops) && eqMp (nzM (runF ops)) (nzM (runF ops))) = true := by
          have q : eqMp (nzM (runF ops)) (nzM (runF ops)) = true := same_m (once_filter _ (once_runF _))
          rw [same_m (once_runM _), q]; rfl
        refine ⟨fun _ => ?_, fun h' => absurd h' (by rw [b1]; decide)⟩
        (conv => arg 4; whnf); repeat (refine ⟨rfl, ?_⟩; conv => arg 4; whnf)
        refine callG [0, 1, 2, 6, 7, 8] (cmSame (m := runM ops) (m' := runM (lasts ops)) (f := runF ops) (f' := runF (lasts ops)) (once_runF _) (once_runF _)) rfl ⟨⟨by decide, rfl⟩, ⟨by decide, by rw [ClO.fE]; rfl⟩, ⟨by decide, by rw [ClO.mE]; rfl⟩, ⟨by decide, rfl⟩, ⟨by decide, by rw [ClO.fE]; rfl⟩, ⟨by decide, by rw [ClO.mE]; rfl⟩, trivial⟩ rfl (Cl.bool _ _) mrgTV ?_
        (conv => arg 4; whnf); repeat (refine ⟨rfl, ?_⟩; conv => arg 4; whnf)
        have b2 : (eqMp (runM ops) (runM (lasts ops)) && eqMp (nzM (runF ops)) (nzM (runF (lasts ops)))) = true := by rw [back_m hok, back_f hok hasc]; rfl
        refine ⟨fun _ => ?_, fun h' => absurd h' (by rw [b2]; decide)⟩
        (conv => arg 4; whnf); repeat (refine ⟨rfl, ?_⟩; conv => arg 4; whnf)
        refine call0 (nilPut (e := ⟨[103], [116], 0, 0⟩)) (ClL.cons Cl.nilp (ClL.cons (Cl.ent ⟨[103], [116], 0, 0⟩) ClL.nil)) (by (repeat' (first | with_reducible assumption | exact ClL.nil | exact Cl.int _ _ | exact Cl.bool _ | exact Cl.bl _ | exact Cl.bs _ | exact Cl.str _ | exact Cl.nils | exact Cl.nilp | exact Cl.rec _ | exact Cl.bat _ | exact Cl.recsV _ | exact Cl.strsV _ | exact Cl.intsV _ | exact Cl.req _ | exact Cl.rsp _ | exact Cl.reqA _ | exact Cl.rspA _ | exact Cl.batsV _ | exact Cl.prsV _ | exact Cl.atsV _ | exact Cl.entA _ _ | exact Cl.ent _ | exact Cl.rr _ _ | exact Cl.foundA _ | exact Cl.getB _ | exact Cl.encA _ | exact Cl.firstA _ | refine ClL.cons ?_ ?_ | refine Cl.tup ?_ | refine Cl.agg ?_ | exact ClO.RO _ _))) ?_
        (conv => arg 4; whnf); repeat (refine ⟨rfl, ?_⟩; conv => arg 4; whnf)
        refine ⟨fun _ => ?_, fun h' => absurd h' (by decide)⟩
        (conv => arg 4; whnf); repeat (refine ⟨rfl, ?_⟩; conv => arg 4; whnf)
        refine call0 (nilGen (g := [103]) (n := 1)) (by (repeat' (first | with_reducible assumption | exact ClL.nil | exact Cl.int _ _ | exact Cl.bool _ | exact Cl.bl _ | exact Cl.bs _ | exact Cl.str _ | exact Cl.nils | exact Cl.nilp | exact Cl.rec _ | exact Cl.bat _ | exact Cl.recsV _ | exact Cl.strsV _ | exact Cl.intsV _ | exact Cl.req _ | exact Cl.rsp _ | exact Cl.reqA _ | exact Cl.rspA _ | exact Cl.batsV _ | exact Cl.prsV _ | exact Cl.atsV _ | exact Cl.entA _ _ | exact Cl.ent _ | exact Cl.rr _ _ | exact Cl.foundA _ | exact Cl.getB _ | exact Cl.encA _ | exact Cl.firstA _ | refine ClL.cons ?_ ?_ | refine Cl.tup ?_ | refine Cl.agg ?_ | exact ClO.RO _ _))) (by (repeat' (first | with_reducible assumption | exact ClL.nil | exact Cl.int _ _ | exact Cl.bool _ | exact Cl.bl _ | exact Cl.bs _ | exact Cl.str _ | exact Cl.nils | exact Cl.nilp | exact Cl.rec _ | exact Cl.bat _ | exact Cl.recsV _ | exact Cl.strsV _ | exact Cl.intsV _ | exact Cl.req _ | exact Cl.rsp _ | exact Cl.reqA _ | exact Cl.rspA _ | exact Cl.batsV _ | exact Cl.prsV _ | exact Cl.atsV _ | exact Cl.entA _ _ | exact Cl.ent _ | exact Cl.rr _ _ | exact Cl.foundA _ | exact Cl.getB _ | exact Cl.encA _ | exact Cl.firstA _ | refine ClL.cons ?_ ?_ | refine Cl.tup ?_ | refine Cl.agg ?_ | exact ClO.RO _ _))) ?_
        (conv => arg 4; whnf); repeat (refine ⟨rfl, ?_⟩; conv => arg 4; whnf)
        refine ⟨fun _ => ?_, fun h' => absurd h' (by decide)⟩
        (conv => arg 4; whnf); repeat (refine ⟨rfl, ?_⟩; conv => arg 4; whnf)
        refine holds_args (args' := [.nilp, Rec0.av]) ⟨Le.refl _ _, Le.agg (LeL.cons (Le.refl _ _) (LeL.cons (Le.refl _ _) (LeL.cons Le.bl (LeL.cons Le.nils (LeL.cons Le.bl (LeL.cons Le.nils (LeL.nil _))))))), trivial⟩ ?_
        refine call0 (nilApply (r := Rec0)) (ClL.cons Cl.nilp (ClL.cons (Cl.rec Rec0) ClL.nil)) (by (repeat' (first | with_reducible assumption | exact ClL.nil | exact Cl.int _ _ | exact Cl.bool _ | exact Cl.bl _ | exact Cl.bs _ | exact Cl.str _ | exact Cl.nils | exact Cl.nilp | exact Cl.rec _ | exact Cl.bat _ | exact Cl.recsV _ | exact Cl.strsV _ | exact Cl.intsV _ | exact Cl.req _ | exact Cl.rsp _ | exact Cl.reqA _ | exact Cl.rspA _ | exact Cl.batsV _ | exact Cl.prsV _ | exact Cl.atsV _ | exact Cl.entA _ _ | exact Cl.ent _ | exact Cl.rr _ _ | exact Cl.foundA _ | exact Cl.getB _ | exact Cl.encA _ | exact Cl.firstA _ | refine ClL.cons ?_ ?_ | refine Cl.tup ?_ | refine Cl.agg ?_ | exact ClO.RO _ _))) ?_
        (conv => arg 4; whnf); repeat (refine ⟨rfl, ?_⟩; conv => arg 4; whnf)
        refine ⟨fun _ => ?_, fun h' => absurd h' (by decide)⟩
        (conv => arg 4; whnf); repeat (refine ⟨rfl, ?_⟩; conv => arg 4; whnf)
        refine call0 (nilFloor (g := [103])) (by (repeat' (first | with_reducible assumption | exact ClL.nil | exact Cl.int _ _ | exact Cl.bool _ | exact Cl.bl _ | exact Cl.bs _ | exact Cl.str _ | exact Cl.nils | exact Cl.nilp | exact Cl.rec _ | exact Cl.bat _ | exact Cl.recsV _ | exact Cl.strsV _ | exact Cl.intsV _ | exact Cl.req _ | exact Cl.rsp _ | exact Cl.reqA _ | exact Cl.rspA _ | exact Cl.batsV _ | exact Cl.prsV _ | exact Cl.atsV _ | exact Cl.entA _ _ | exact Cl.ent _ | exact Cl.rr _ _ | exact Cl.foundA _ | exact Cl.getB _ | exact Cl.encA _ | exact Cl.firstA _ | refine ClL.cons ?_ ?_ | refine Cl.tup ?_ | refine Cl.agg ?_ | exact ClO.RO _ _))) (by (repeat' (first | with_reducible assumption | exact ClL.nil | exact Cl.int _ _ | exact Cl.bool _ | exact Cl.bl _ | exact Cl.bs _ | exact Cl.str _ | exact Cl.nils | exact Cl.nilp | exact Cl.rec _ | exact Cl.bat _ | exact Cl.recsV _ | exact Cl.strsV _ | exact Cl.intsV _ | exact Cl.req _ | exact Cl.rsp _ | exact Cl.reqA _ | exact Cl.rspA _ | exact Cl.batsV _ | exact Cl.prsV _ | exact Cl.atsV _ | exact Cl.entA _ _ | exact Cl.ent _ | exact Cl.rr _ _ | exact Cl.foundA _ | exact Cl.getB _ | exact Cl.encA _ | exact Cl.firstA _ | refine ClL.cons ?_ ?_ | refine Cl.tup ?_ | refine Cl.agg ?_ | exact ClO.RO _ _))) ?_
        (conv => arg 4; whnf); repeat (refine ⟨rfl, ?_⟩; conv => arg 4; whnf)
        refine ⟨fun _ => ?_, fun h' => absurd h' (by decide)⟩
        (conv => arg 4; whnf); repeat (refine ⟨rfl, ?_⟩; conv => arg 4; whnf)
        refine call0 awake18 (by (repeat' (first | with_reducible assumption | exact ClL.nil | exact Cl.int _ _ | exact Cl.bool _ | exact Cl.bl _ | exact Cl.bs _ | exact Cl.str _ | exact Cl.nils | exact Cl.nilp | exact Cl.rec _ | exact Cl.bat _ | exact Cl.recsV _ | exact Cl.strsV _ | exact Cl.intsV _ | exact Cl.req _ | exact Cl.rsp _ | exact Cl.reqA _ | exact Cl.rspA _ | exact Cl.batsV _ | exact Cl.prsV _ | exact Cl.atsV _ | exact Cl.entA _ _ | exact Cl.ent _ | exact Cl.rr _ _ | exact Cl.foundA _ | exact Cl.getB _ | exact Cl.encA _ | exact Cl.firstA _ | refine ClL.cons ?_ ?_ | refine Cl.tup ?_ | refine Cl.agg ?_ | exact ClO.RO _ _))) (by (repeat' (first | with_reducible assumption | exact ClL.nil | exact Cl.int _ _ | exact Cl.bool _ | exact Cl.bl _ | exact Cl.bs _ | exact Cl.str _ | exact Cl.nils | exact Cl.nilp | exact Cl.rec _ | exact Cl.bat _ | exact Cl.recsV _ | exact Cl.strsV _ | exact Cl.intsV _ | exact Cl.req _ | exact Cl.rsp _ | exact Cl.reqA _ | exact Cl.rspA _ | exact Cl.batsV _ | exact Cl.prsV _ | exact Cl.atsV _ | exact Cl.entA _ _ | exact Cl.ent _ | exact Cl.rr _ _ | exact Cl.foundA _ | exact Cl.getB _ | exact Cl.encA _ | exact Cl.firstA _ | refine ClL.cons ?_ ?_ | refine Cl.tup ?_ | refine Cl.agg ?_ | exact ClO.RO _ _))) ?_
        (conv => arg 4; whnf); repeat (refine ⟨rfl, ?_⟩; conv => arg 4; whnf)
        exact .inl rfl
end Go.Proofs.Ytlifbhcmihnkpaa.Cm

namespace Go.Proofs.Ytlifbhcmihnkpaa.Cm
set_option maxRecDepth 100000
set_option maxHeartbeats 80000000
open Go.Sym

theorem refLess {a b : Ent} : CallOK Try.prog 136 [a.av, b.av] [] 0 (Out (.bool (ltK (mkOf a) (mkOf b))) [] 0) := by
  refine CallOK.fit (by decide) ?_
  refine callOK Try.call136 Try.func136 Try.ntmps136 rfl ?_
  conv => arg 4; whnf
  refine ⟨fun h => ?_, fun h => ?_⟩
  · have h : a.g ≠ b.g := by simpa using h
    (conv => arg 4; whnf); repeat (refine ⟨rfl, ?_⟩; conv => arg 4; whnf)
    refine ⟨by decide, Le.of_eq (congrArg AV.bool ?_), trivial, (Cl.bool _) _, trivial⟩
    unfold ltK mkOf
    rw [if_pos h]
  · have h : a.g = b.g := by simpa using h
    (conv => arg 4; whnf); repeat (refine ⟨rfl, ?_⟩; conv => arg 4; whnf)
    refine ⟨fun h2 => ?_, fun h2 => ?_⟩
    · have h2 : a.t ≠ b.t := by simpa using h2
      (conv => arg 4; whnf); repeat (refine ⟨rfl, ?_⟩; conv => arg 4; whnf)
      refine ⟨by decide, Le.of_eq (congrArg AV.bool ?_), trivial, (Cl.bool _) _, trivial⟩
      unfold ltK mkOf
      rw [if_neg (by simpa using h), if_pos h2]
    · have h2 : a.t = b.t := by simpa using h2
      (conv => arg 4; whnf); repeat (refine ⟨rfl, ?_⟩; conv => arg 4; whnf)
      refine ⟨by decide, Le.of_eq (congrArg AV.bool ?_), trivial, (Cl.bool _) _, trivial⟩
      unfold ltK mkOf
      rw [if_neg (by simpa using h), if_neg (by simpa using h2)]
def entsL (l : List Ent) : List AV := l.map Ent.av
abbrev entsV (l : List Ent) : AV := .sl .none 4 (entsL l)
theorem ents_length (l : List Ent) : (entsL l).length = l.length := by simp [entsL]
theorem ents_get {l : List Ent} {i : Nat} {x : Ent} (h : l[i]? = some x) : (entsL l)[((i : Nat) : Int).toNat]? = some x.av := by simp [entsL, h]
theorem ClL.ents (l : List Ent) : ClL (entsL l) := ClL.map Cl.ent l
/-- Floors. -/
def flrA (x : List UInt8 × Int) : AV := .agg [.str x.1, .int .i64 x.2]
abbrev flrsV (l : List (List UInt8 × Int)) : AV := .sl .none 2 (l.map flrA)
theorem Cl.flr (x : List UInt8 × Int) : Cl (flrA x) := Cl.agg (ClL.cons (Cl.str _) (ClL.cons (Cl.int _ _) ClL.nil))
/-- The document's table's object. -/
abbrev rcO (l : List Ent) (f : List (List UInt8 × Int)) : AObj := .cells [entsV l, flrsV f]
theorem ClO.rc (l : List Ent) (f : List (List UInt8 × Int)) : ClO (rcO l f) := ClO.cells (ClL.cons (Cl.sl (ClL.ents l)) (ClL.cons (Cl.sl (ClL.map Cl.flr f)) ClL.nil))

theorem refFind {l : List Ent} {f : List (List UInt8 × Int)} {e : Ent} (hl : l.length ≤ 1000000) : CallOK Try.prog 117 [.ptr 0 0, e.av] [(0, rcO l f)] 1 (Out (.tup [.int .i64 (below (mkOf e) l), .bool (isAt (mkOf e) l)]) [(0, rcO l f)] 1) := by
  refine CallOK.fit (by decide) ?_
  refine callOK Try.call117 Try.func117 Try.ntmps117 rfl ?_
  conv => arg 4; whnf
  refine tri_loopG (ι := FnI (mkOf e) l) (fun x => ⟨[(6, .int .i64 x.i), (3, .ptr 1 0), (0, .ptr 0 0)], [(1, .cells [.str e.g, .str e.t, .int .i64 e.p, .int .i64 e.o]), (0, rcO l f)], 2, 47⟩) (fun x => l.length - x.i) ⟨0, Nat.zero_le _⟩ (WkG.of rfl rfl ⟨Le.refl _ _, Le.refl _ _, Le.refl _ _, trivial⟩ ⟨⟨_, rfl, LeO.refl _ _⟩, ⟨_, rfl, LeO.refl _ _⟩, trivial⟩ ⟨rfl, rfl, rfl, trivial⟩ ⟨⟨by decide, rfl⟩, ⟨by decide, ClO.rc _ _ _⟩, trivial⟩) ?_
  rintro ⟨i, hi⟩
  dsimp only
  have hbl := below_le (mkOf e) l
  conv => arg 4; whnf
  refine ⟨fun hlt => ?_, fun hlt => ?_⟩
  · have hlt : i < l.length := by rw [ents_length] at hlt; simp at hlt; omega
    obtain ⟨x, hx⟩ : ∃ x, l[i]? = some x := ⟨_, List.getElem?_eq_getElem hlt⟩
    (conv => arg 4; whnf); repeat (refine ⟨rfl, ?_⟩; conv => arg 4; whnf)
    refine ⟨x.av, ⟨by omega, ents_get hx⟩, ?_⟩
    (conv => arg 4; whnf); repeat (refine ⟨rfl, ?_⟩; conv => arg 4; whnf)
    refine call0 (refLess (a := x) (b := e)) (ClL.cons (Cl.ent x) (ClL.cons (Cl.ent e) ClL.nil)) (Cl.bool _) ?_
    (conv => arg 4; whnf); repeat (refine ⟨rfl, ?_⟩; conv => arg 4; whnf)
    refine ⟨fun hb => ?_, fun hb => ?_⟩
    · have hb := (below_lt hx hi).1 hb
      (conv => arg 4; whnf); repeat (refine ⟨rfl, ?_⟩; conv => arg 4; whnf)
      exact ⟨⟨i + 1, hb⟩, by show l.length - (i + 1) < l.length - i; omega, WkG.of rfl rfl ⟨Le.of_eq (succ18 (by omega)), Le.refl _ _, Le.refl _ _, trivial⟩ ⟨⟨_, rfl, LeO.refl _ _⟩, ⟨_, rfl, LeO.refl _ _⟩, trivial⟩ ⟨rfl, rfl, rfl, trivial⟩ ⟨⟨by decide, rfl⟩, ⟨by decide, ClO.rc _ _ _⟩, trivial⟩⟩
    · have hb : i = below (mkOf e) l := by
        have : ¬ i < below (mkOf e) l := fun h => by rw [(below_lt hx hi).2 h] at hb; cases hb
        omega
      (conv => arg 4; whnf); repeat (refine ⟨rfl, ?_⟩; conv => arg 4; whnf)
      refine fin_exit ?_
      show holds _ _ _ _
      conv => arg 4; whnf
      refine ⟨fun _ => ?_, fun h' => absurd h' (by rw [ents_length]; simp; omega)⟩
      (conv => arg 4; whnf); repeat (refine ⟨rfl, ?_⟩; conv => arg 4; whnf)
      refine ⟨x.av, ⟨by omega, ents_get hx⟩, ?_⟩
      (conv => arg 4; whnf); repeat (refine ⟨rfl, ?_⟩; conv => arg 4; whnf)
      refine call0 (refLess (a := e) (b := x)) (ClL.cons (Cl.ent e) (ClL.cons (Cl.ent x) ClL.nil)) (Cl.bool _) ?_
      (conv => arg 4; whnf); repeat (refine ⟨rfl, ?_⟩; conv => arg 4; whnf)
      have ei : isAt (mkOf e) l = !(ltK (mkOf e) (mkOf x)) := by unfold isAt; rw [← hb, hx]
      rw [ei, ← hb]
      exact ⟨by decide, Le.refl _ _, ⟨⟨_, rfl, LeO.refl _ _⟩, trivial⟩, (Cl.tup (ClL.cons (Cl.int _ _) (ClL.cons (Cl.bool _) ClL.nil))) _, ⟨⟨by decide, ClO.rc _ _ _⟩, trivial⟩⟩
  · have hlt : i = l.length := by rw [ents_length] at hlt; simp at hlt; omega
    have hb : i = below (mkOf e) l := by omega
    (conv => arg 4; whnf); repeat (refine ⟨rfl, ?_⟩; conv => arg 4; whnf)
    refine fin_exit ?_
    show holds _ _ _ _
    conv => arg 4; whnf
    refine ⟨fun h' => absurd h' (by rw [ents_length, hlt]; simp), fun _ => ?_⟩
    (conv => arg 4; whnf); repeat (refine ⟨rfl, ?_⟩; conv => arg 4; whnf)
    have ei : isAt (mkOf e) l = false := by unfold isAt; rw [← hb, hlt, List.getElem?_eq_none (Nat.le_refl _)]
    rw [ei, ← hb]
    refine ⟨by decide, Le.tup (LeL.cons (Le.refl _ _) (LeL.cons Le.bl (LeL.nil _))), ⟨⟨_, rfl, LeO.refl _ _⟩, trivial⟩, (Cl.tup (ClL.cons (Cl.int _ _) (ClL.cons (Cl.bool _) ClL.nil))) _, ⟨⟨by decide, ClO.rc _ _ _⟩, trivial⟩⟩

theorem argsO {nx i : Nat} {a : AV} (h : Cl a) : [AV.ptr i 0, a] = renL (rho nx [i]) [.ptr 0 0, a] := by
  simp only [renL, ren, h _]
  rfl
theorem refPut18 {l : List Ent} {f : List (List UInt8 × Int)} {e : Ent} (hl : l.length ≤ 1000000) (hg : e.g.length ≤ 1000000) (ht : e.t.length ≤ 1000000) : CallOK Try.prog 75 [.ptr 0 0, e.av] [(0, rcO l f)] 1 (Out (.int .i64 (if mayE e then 0 else 1)) [(0, rcO (if mayE e then putL e l else l) f)] 1) := by
  refine CallOK.fit (by decide) ?_
  refine callOK Try.call75 Try.func75 Try.ntmps75 rfl ?_
  conv => arg 4; whnf
  refine call0 (refPlace (e := e) hg ht) (ClL.cons (Cl.ent e) ClL.nil) (Cl.bool _) ?_
  (conv => arg 4; whnf); repeat (refine ⟨rfl, ?_⟩; conv => arg 4; whnf)
  have hmay : mayE e = !(bif bif !place e then true else decide (e.o < 0) then true else decide (e.o > 4611686018427387904)) := by
    unfold mayE
    rw [Bool.eq_iff_iff]
    cases place e <;> simp
  refine ⟨fun hb => ?_, fun hb => ?_⟩
  · have hm : mayE e = false := by rw [hmay, hb]; rfl
    (conv => arg 4; whnf); repeat (refine ⟨rfl, ?_⟩; conv => arg 4; whnf)
    simp only [hm, Bool.false_eq_true, if_false]
    exact ⟨by decide, Le.refl _ _, ⟨⟨_, rfl, LeO.refl _ _⟩, trivial⟩, (Cl.int _ _) _, ⟨⟨by decide, ClO.rc _ _ _⟩, trivial⟩⟩
  · have hm : mayE e = true := by rw [hmay, hb]; rfl
    have hbl := below_le (mkOf e) l
    (conv => arg 4; whnf); repeat (refine ⟨rfl, ?_⟩; conv => arg 4; whnf)
    refine call1 0 (refFind (l := l) (f := f) (e := e) hl) rfl rfl (ClO.rc _ _) (ClO.rc _ _) (argsO (Cl.ent e)) (Cl.tup (ClL.cons (Cl.int _ _) (ClL.cons (Cl.bool _) ClL.nil))) ?_
    (conv => arg 4; whnf); repeat (refine ⟨rfl, ?_⟩; conv => arg 4; whnf)
    refine ⟨by rw [ents_length]; omega, ?_⟩
    (conv => arg 4; whnf); repeat (refine ⟨rfl, ?_⟩; conv => arg 4; whnf)
    refine ⟨fun hi => ?_, fun hi => ?_⟩
    · have hlt := isAt_lt hi
      have hw : IntKind.i64.wrap ((below (mkOf e) l : Int) + 1) = ((below (mkOf e) l + 1 : Nat) : Int) := by rw [IntKind.wrap_i64]; omega
      (conv => arg 4; whnf); repeat (refine ⟨rfl, ?_⟩; conv => arg 4; whnf)
      refine ⟨by rw [hw, ents_length]; omega, ?_⟩
      (conv => arg 4; whnf); repeat (refine ⟨rfl, ?_⟩; conv => arg 4; whnf)
      refine ⟨by rw [ents_length]; omega, ?_⟩
      (conv => arg 4; whnf); repeat (refine ⟨rfl, ?_⟩; conv => arg 4; whnf)
      refine ⟨sizeOk 48 rfl (by simp only [List.length_append, List.length_take, List.length_nil, ents_length]; omega), Or.inl ?_⟩
      (conv => arg 4; whnf); repeat (refine ⟨rfl, ?_⟩; conv => arg 4; whnf)
      refine ⟨⟨rfl, sizeOk 48 rfl (by simp only [List.length_append, List.length_take, List.length_cons, List.length_nil, ents_length]; omega)⟩, ?_⟩
      (conv => arg 4; whnf); repeat (refine ⟨rfl, ?_⟩; conv => arg 4; whnf)
      refine ⟨⟨rfl, sizeOk 48 rfl (by simp only [List.length_append, List.length_take, List.length_drop, List.length_cons, List.length_nil, ents_length]; omega)⟩, ?_⟩
      (conv => arg 4; whnf); repeat (refine ⟨rfl, ?_⟩; conv => arg 4; whnf)
      have ee : [] ++ (entsL l).take ((below (mkOf e) l : Nat) : Int).toNat ++ [e.av] ++ (entsL l).drop (IntKind.i64.wrap ((below (mkOf e) l : Int) + 1)).toNat = entsL (putL e l) := by
        rw [hw]
        simp [entsL, putL, hi, List.map_take, List.map_drop]
      simp only [hm, if_true]
      exact ⟨by decide, Le.refl _ _, ⟨⟨_, rfl, LeL.cons (Le.noneOf ee) (LeL.refl _ _)⟩, trivial⟩, (Cl.int _ _) _, ⟨⟨by decide, ClO.rc _ _ _⟩, trivial⟩⟩
    · (conv => arg 4; whnf); repeat (refine ⟨rfl, ?_⟩; conv => arg 4; whnf)
      refine ⟨by rw [ents_length]; omega, ?_⟩
      (conv => arg 4; whnf); repeat (refine ⟨rfl, ?_⟩; conv => arg 4; whnf)
      refine ⟨sizeOk 48 rfl (by simp only [List.length_append, List.length_take, List.length_nil, ents_length]; omega), Or.inl ?_⟩
      (conv => arg 4; whnf); repeat (refine ⟨rfl, ?_⟩; conv => arg 4; whnf)
      refine ⟨⟨rfl, sizeOk 48 rfl (by simp only [List.length_append, List.length_take, List.length_cons, List.length_nil, ents_length]; omega)⟩, ?_⟩
      (conv => arg 4; whnf); repeat (refine ⟨rfl, ?_⟩; conv => arg 4; whnf)
      refine ⟨⟨rfl, sizeOk 48 rfl (by simp only [List.length_append, List.length_take, List.length_drop, List.length_cons, List.length_nil, ents_length]; omega)⟩, ?_⟩
      (conv => arg 4; whnf); repeat (refine ⟨rfl, ?_⟩; conv => arg 4; whnf)
      have ee : [] ++ (entsL l).take ((below (mkOf e) l : Nat) : Int).toNat ++ [e.av] ++ (entsL l).drop ((below (mkOf e) l : Nat) : Int).toNat = entsL (putL e l) := by
        simp [entsL, putL, hi, List.map_take, List.map_drop]
      simp only [hm, if_true]
      exact ⟨by decide, Le.refl _ _, ⟨⟨_, rfl, LeL.cons (Le.noneOf ee) (LeL.refl _ _)⟩, trivial⟩, (Cl.int _ _) _, ⟨⟨by decide, ClO.rc _ _ _⟩, trivial⟩⟩
theorem refDrop18 {l : List Ent} {f : List (List UInt8 × Int)} {e : Ent} (hl : l.length ≤ 1000000) : CallOK Try.prog 120 [.ptr 0 0, e.av] [(0, rcO l f)] 1 (Out (.tup []) [(0, rcO (dropL (mkOf e) l) f)] 1) := by
  refine CallOK.fit (by decide) ?_
  refine callOK Try.call120 Try.func120 Try.ntmps120 rfl ?_
  conv => arg 4; whnf
  refine call1 0 (refFind (l := l) (f := f) (e := e) hl) rfl rfl (ClO.rc _ _) (ClO.rc _ _) (argsO (Cl.ent e)) (Cl.tup (ClL.cons (Cl.int _ _) (ClL.cons (Cl.bool _) ClL.nil))) ?_
  (conv => arg 4; whnf); repeat (refine ⟨rfl, ?_⟩; conv => arg 4; whnf)
  refine ⟨fun hi => ?_, fun hi => ?_⟩
  · have hlt := isAt_lt hi
    have hw : IntKind.i64.wrap ((below (mkOf e) l : Int) + 1) = ((below (mkOf e) l + 1 : Nat) : Int) := by rw [IntKind.wrap_i64]; omega
    (conv => arg 4; whnf); repeat (refine ⟨rfl, ?_⟩; conv => arg 4; whnf)
    refine ⟨by rw [ents_length]; omega, ?_⟩
    (conv => arg 4; whnf); repeat (refine ⟨rfl, ?_⟩; conv => arg 4; whnf)
    refine ⟨by rw [hw, ents_length]; omega, ?_⟩
    (conv => arg 4; whnf); repeat (refine ⟨rfl, ?_⟩; conv => arg 4; whnf)
    refine ⟨sizeOk 48 rfl (by simp only [List.length_append, List.length_take, List.length_nil, ents_length]; omega), Or.inl ?_⟩
    (conv => arg 4; whnf); repeat (refine ⟨rfl, ?_⟩; conv => arg 4; whnf)
    refine ⟨⟨rfl, sizeOk 48 rfl (by simp only [List.length_append, List.length_take, List.length_drop, List.length_cons, List.length_nil, ents_length]; omega)⟩, ?_⟩
    (conv => arg 4; whnf); repeat (refine ⟨rfl, ?_⟩; conv => arg 4; whnf)
    have ee : [] ++ (entsL l).take ((below (mkOf e) l : Nat) : Int).toNat ++ (entsL l).drop (IntKind.i64.wrap ((below (mkOf e) l : Int) + 1)).toNat = entsL (dropL (mkOf e) l) := by
      rw [hw]
      simp [entsL, dropL, hi, List.map_take, List.map_drop]
    exact ⟨by decide, Le.refl _ _, ⟨⟨_, rfl, LeL.cons (Le.noneOf ee) (LeL.refl _ _)⟩, trivial⟩, Cl.tup ClL.nil _, ⟨⟨by decide, ClO.rc _ _ _⟩, trivial⟩⟩
  · have ee : dropL (mkOf e) l = l := by unfold dropL; rw [hi]; rfl
    (conv => arg 4; whnf); repeat (refine ⟨rfl, ?_⟩; conv => arg 4; whnf)
    rw [ee]
    exact ⟨by decide, Le.refl _ _, ⟨⟨_, rfl, LeO.refl _ _⟩, trivial⟩, Cl.tup ClL.nil _, ⟨⟨by decide, ClO.rc _ _ _⟩, trivial⟩⟩
theorem refGet18 {l : List Ent} {f : List (List UInt8 × Int)} {g t : List UInt8} {p : Int} (hl : l.length ≤ 1000000) (hs : Srt l) : CallOK Try.prog 80 [.ptr 0 0, .str g, .str t, .int .i64 p] [(0, rcO l f)] 1 (Out (.tup [.int .i64 ((lkL l (g, t, p)).getD 0), .bool (lkL l (g, t, p)).isSome]) [(0, rcO l f)] 1) := by
  obtain ⟨k1, k2⟩ := lk_at (k := (g, t, p)) hs
  refine CallOK.fit (by decide) ?_
  refine callOK Try.call80 Try.func80 Try.ntmps80 rfl ?_
  conv => arg 4; whnf
  refine call1 0 (refFind (l := l) (f := f) (e := ⟨g, t, p, 0⟩) hl) rfl rfl (ClO.rc _ _) (ClO.rc _ _) (argsO (Cl.ent ⟨g, t, p, 0⟩)) (Cl.tup (ClL.cons (Cl.int _ _) (ClL.cons (Cl.bool _) ClL.nil))) ?_
  (conv => arg 4; whnf); repeat (refine ⟨rfl, ?_⟩; conv => arg 4; whnf)
  refine ⟨fun hi => ?_, fun hi => ?_⟩
  · have hi : isAt (g, t, p) l = false := by simp at hi; exact hi
    rw [k2 hi]
    (conv => arg 4; whnf); repeat (refine ⟨rfl, ?_⟩; conv => arg 4; whnf)
    exact ⟨by decide, by (repeat' (first | with_reducible exact Le.refl _ _ | exact Le.bl | exact Le.lb | exact Le.nils | exact Le.nilsFull | exact Le.none | exact LeL.nil _ | refine LeL.cons ?_ ?_ | refine Le.tup ?_ | refine Le.agg ?_ | exact Le.refl _ _ | exact LeL.refl _ _)), ⟨⟨_, rfl, LeO.refl _ _⟩, trivial⟩, (by (repeat' (first | with_reducible assumption | exact ClL.nil | exact Cl.int _ _ | exact Cl.bool _ | exact Cl.bl _ | exact Cl.bs _ | exact Cl.str _ | exact Cl.nils | exact Cl.nilp | exact Cl.rec _ | exact Cl.bat _ | exact Cl.recsV _ | exact Cl.strsV _ | exact Cl.intsV _ | exact Cl.req _ | exact Cl.rsp _ | exact Cl.reqA _ | exact Cl.rspA _ | exact Cl.batsV _ | exact Cl.prsV _ | exact Cl.atsV _ | exact Cl.entA _ _ | exact Cl.ent _ | exact Cl.rr _ _ | exact Cl.foundA _ | exact Cl.getB _ | exact Cl.encA _ | exact Cl.firstA _ | refine ClL.cons ?_ ?_ | refine Cl.tup ?_ | refine Cl.agg ?_ | exact ClO.RO _ _)) : Cl _) _, ⟨⟨by decide, ClO.rc _ _ _⟩, trivial⟩⟩
  · have hi : isAt (g, t, p) l = true := by simp at hi; exact hi
    obtain ⟨x, hx, hv⟩ := k1 hi
    rw [hv]
    (conv => arg 4; whnf); repeat (refine ⟨rfl, ?_⟩; conv => arg 4; whnf)
    refine ⟨x.av, ⟨by omega, ents_get hx⟩, ?_⟩
    (conv => arg 4; whnf); repeat (refine ⟨rfl, ?_⟩; conv => arg 4; whnf)
    exact ⟨by decide, by (repeat' (first | with_reducible exact Le.refl _ _ | exact Le.bl | exact Le.lb | exact Le.nils | exact Le.nilsFull | exact Le.none | exact LeL.nil _ | refine LeL.cons ?_ ?_ | refine Le.tup ?_ | refine Le.agg ?_ | exact Le.refl _ _ | exact LeL.refl _ _)), ⟨⟨_, rfl, LeO.refl _ _⟩, trivial⟩, (by (repeat' (first | with_reducible assumption | exact ClL.nil | exact Cl.int _ _ | exact Cl.bool _ | exact Cl.bl _ | exact Cl.bs _ | exact Cl.str _ | exact Cl.nils | exact Cl.nilp | exact Cl.rec _ | exact Cl.bat _ | exact Cl.recsV _ | exact Cl.strsV _ | exact Cl.intsV _ | exact Cl.req _ | exact Cl.rsp _ | exact Cl.reqA _ | exact Cl.rspA _ | exact Cl.batsV _ | exact Cl.prsV _ | exact Cl.atsV _ | exact Cl.entA _ _ | exact Cl.ent _ | exact Cl.rr _ _ | exact Cl.foundA _ | exact Cl.getB _ | exact Cl.encA _ | exact Cl.firstA _ | refine ClL.cons ?_ ?_ | refine Cl.tup ?_ | refine Cl.agg ?_ | exact ClO.RO _ _)) : Cl _) _, ⟨⟨by decide, ClO.rc _ _ _⟩, trivial⟩⟩
structure FlI (f : List (List UInt8 × Int)) (g : List UInt8) where
  i : Nat
  hi : i ≤ f.length
  h : flOf (f.drop i) g = flOf f g
theorem flr_get {f : List (List UInt8 × Int)} {i : Nat} {x : List UInt8 × Int} (h : f[i]? = some x) : (f.map flrA)[((i : Nat) : Int).toNat]? = some (flrA x) := by simp [h]
theorem refFloorOf {l : List Ent} {f : List (List UInt8 × Int)} {g : List UInt8} (hf : f.length ≤ 1000000) : CallOK Try.prog 78 [.ptr 0 0, .str g] [(0, rcO l f)] 1 (Out (.int .i64 (flOf f g)) [(0, rcO l f)] 1) := by
  refine CallOK.fit (by decide) ?_
  refine callOK Try.call78 Try.func78 Try.ntmps78 rfl ?_
  conv => arg 4; whnf
  refine tri_loopG (ι := FlI f g) (fun x => ⟨[(5, .int .i64 x.i), (0, .ptr 0 0), (1, .str g)], [(0, rcO l f)], 1, 33⟩) (fun x => f.length - x.i) ⟨0, Nat.zero_le _, rfl⟩ (WkG.of rfl rfl ⟨Le.refl _ _, Le.refl _ _, Le.refl _ _, trivial⟩ ⟨⟨_, rfl, LeO.refl _ _⟩, trivial⟩ ⟨rfl, rfl, rfl, trivial⟩ ⟨⟨by decide, ClO.rc _ _ _⟩, trivial⟩) ?_
  rintro ⟨i, hi, hg⟩
  dsimp only
  conv => arg 4; whnf
  refine ⟨fun hlt => ?_, fun hlt => ?_⟩
  · have hlt : i < f.length := by simp at hlt; omega
    obtain ⟨x, hx⟩ : ∃ x, f[i]? = some x := ⟨_, List.getElem?_eq_getElem hlt⟩
    have hd : f.drop i = x :: f.drop (i + 1) := by
      obtain ⟨h1, h2⟩ := List.getElem?_eq_some_iff.1 hx
      rw [List.drop_eq_getElem_cons hlt, h2]
    rw [hd] at hg
    obtain ⟨a, n⟩ := x
    have hg : (if a = g then n else flOf (f.drop (i + 1)) g) = flOf f g := hg
    (conv => arg 4; whnf); repeat (refine ⟨rfl, ?_⟩; conv => arg 4; whnf)
    refine ⟨flrA (a, n), ⟨by omega, flr_get hx⟩, ?_⟩
    (conv => arg 4; whnf); repeat (refine ⟨rfl, ?_⟩; conv => arg 4; whnf)
    refine ⟨fun hc => ?_, fun hc => ?_⟩
    · have hc : a = g := by simpa using hc
      rw [if_pos hc] at hg
      (conv => arg 4; whnf); repeat (refine ⟨rfl, ?_⟩; conv => arg 4; whnf)
      refine ⟨flrA (a, n), ⟨by omega, flr_get hx⟩, ?_⟩
      (conv => arg 4; whnf); repeat (refine ⟨rfl, ?_⟩; conv => arg 4; whnf)
      rw [← hg]
      exact ⟨by decide, Le.refl _ _, ⟨⟨_, rfl, LeO.refl _ _⟩, trivial⟩, (Cl.int _ _) _, ⟨⟨by decide, ClO.rc _ _ _⟩, trivial⟩⟩
    · have hc : ¬ a = g := by simpa using hc
      rw [if_neg hc] at hg
      (conv => arg 4; whnf); repeat (refine ⟨rfl, ?_⟩; conv => arg 4; whnf)
      exact ⟨⟨i + 1, hlt, hg⟩, by show f.length - (i + 1) < f.length - i; omega, WkG.of rfl rfl ⟨Le.of_eq (succ18 (by omega)), Le.refl _ _, Le.refl _ _, trivial⟩ ⟨⟨_, rfl, LeO.refl _ _⟩, trivial⟩ ⟨rfl, rfl, rfl, trivial⟩ ⟨⟨by decide, ClO.rc _ _ _⟩, trivial⟩⟩
  · have hlt : i = f.length := by simp at hlt; omega
    rw [hlt, List.drop_length] at hg
    (conv => arg 4; whnf); repeat (refine ⟨rfl, ?_⟩; conv => arg 4; whnf)
    rw [← hg]
    exact ⟨by decide, Le.refl _ _, ⟨⟨_, rfl, LeO.refl _ _⟩, trivial⟩, (Cl.int _ _) _, ⟨⟨by decide, ClO.rc _ _ _⟩, trivial⟩⟩
structure FrI (f : List (List UInt8 × Int)) where
  i : Nat
  s : Nat
  hi : i ≤ f.length
abbrev flF (f : List (List UInt8 × Int)) (g : List UInt8) (i : Nat) : List (List UInt8 × Int) := (f.take i).filter fun x => decide (x.1 ≠ g)
theorem flF_len (f : List (List UInt8 × Int)) (g : List UInt8) (i : Nat) : (flF f g i).length ≤ f.length := Nat.le_trans (List.length_filter_le _ _) (by simp; omega)
theorem cut_flr {f : List (List UInt8 × Int)} {nx s : Nat} : ren (cut 2 nx) (.sl (.tok 1 s) 2 (f.map flrA)) = .sl (.tok 1 s) 2 (f.map flrA) := by
  simp only [ren, ClL.map Cl.flr f _, renP, cut_lt (show 1 < 2 by decide)]
theorem refFloor {l : List Ent} {f : List (List UInt8 × Int)} {g : List UInt8} {n : Int} (hf : f.length ≤ 1000000) : CallOK Try.prog 118 [.ptr 0 0, .str g, .int .i64 n] [(0, rcO l f)] 1 (Out (.tup []) [(0, rcO l (flPut f g n))] 1) := by
  refine CallOK.fit (by decide) ?_
  refine callOK Try.call118 Try.func118 Try.ntmps118 rfl ?_
  conv => arg 4; whnf
  refine tri_loopG (ι := FrI f) (fun x => ⟨[(7, .int .i64 x.i), (6, .sl (.tok 1 x.s) 2 ((flF f g x.i).map flrA)), (0, .ptr 0 0), (1, .str g), (2, .int .i64 n)], [(1, .tip x.s), (0, rcO l f)], 2, 49⟩) (fun x => f.length - x.i) ⟨0, 0, Nat.zero_le _⟩ (WkG.tok rfl rfl ⟨Le.refl _ _, Le.nilsTok rfl, Le.refl _ _, Le.refl _ _, Le.refl _ _, trivial⟩ ⟨⟨_, rfl, rfl⟩, ⟨_, rfl, LeO.refl _ _⟩, trivial⟩ ⟨rfl, rfl, rfl, rfl, rfl, trivial⟩ ⟨⟨by decide, rfl⟩, ⟨by decide, ClO.rc _ _ _⟩, trivial⟩) ?_
  rintro ⟨i, s, hi⟩
  have hfl := flF_len f g i
  dsimp only
  conv => arg 4; whnf
  refine ⟨fun hlt => ?_, fun hlt => ?_⟩
  · have hlt : i < f.length := by simp at hlt; omega
    obtain ⟨⟨a, v⟩, hx⟩ : ∃ x, f[i]? = some x := ⟨_, List.getElem?_eq_getElem hlt⟩
    have ht : flF f g (i + 1) = flF f g i ++ if a ≠ g then [(a, v)] else [] := by
      show (f.take (i + 1)).filter (fun x => decide (x.1 ≠ g)) = (f.take i).filter (fun x => decide (x.1 ≠ g)) ++ _
      rw [List.take_add_one, hx, List.filter_append]
      congr 1
      by_cases h : a = g <;> simp [h]
    (conv => arg 4; whnf); repeat (refine ⟨rfl, ?_⟩; conv => arg 4; whnf)
    refine ⟨flrA (a, v), ⟨by omega, flr_get hx⟩, ?_⟩
    (conv => arg 4; whnf); repeat (refine ⟨rfl, ?_⟩; conv => arg 4; whnf)
    refine ⟨fun hc => ?_, fun hc => ?_⟩
    · have hc : ¬ a = g := by simpa using hc
      rw [if_pos hc] at ht
      (conv => arg 4; whnf); repeat (refine ⟨rfl, ?_⟩; conv => arg 4; whnf)
      refine ⟨flrA (a, v), ⟨by omega, flr_get hx⟩, ?_⟩
      (conv => arg 4; whnf); repeat (refine ⟨rfl, ?_⟩; conv => arg 4; whnf)
      refine ⟨⟨rfl, sizeOk 24 rfl (by simp only [List.length_append, List.length_map, List.length_cons, List.length_nil]; omega)⟩, ?_⟩
      (conv => arg 4; whnf); repeat (refine ⟨rfl, ?_⟩; conv => arg 4; whnf)
      exact ⟨⟨i + 1, s + 1, hlt⟩, by show f.length - (i + 1) < f.length - i; omega, WkG.of rfl rfl ⟨Le.of_eq (succ18 (by omega)), Le.of_eq (congrArg (AV.sl _ 2) (by rw [ht, List.map_append]; rfl)), Le.refl _ _, Le.refl _ _, Le.refl _ _, trivial⟩ ⟨⟨_, rfl, LeO.refl _ _⟩, ⟨_, rfl, LeO.refl _ _⟩, trivial⟩ ⟨rfl, cut_flr, rfl, rfl, rfl, trivial⟩ ⟨⟨by decide, rfl⟩, ⟨by decide, ClO.rc _ _ _⟩, trivial⟩⟩
    · have hc : a = g := by simpa using hc
      rw [if_neg (by simpa using hc), List.append_nil] at ht
      (conv => arg 4; whnf); repeat (refine ⟨rfl, ?_⟩; conv => arg 4; whnf)
      exact ⟨⟨i + 1, s, hlt⟩, by show f.length - (i + 1) < f.length - i; omega, WkG.of rfl rfl ⟨Le.of_eq (succ18 (by omega)), Le.of_eq (show AV.sl (.tok 1 s) 2 ((flF f g i).map flrA) = AV.sl (.tok 1 s) 2 ((flF f g (i + 1)).map flrA) by rw [ht]), Le.refl _ _, Le.refl _ _, Le.refl _ _, trivial⟩ ⟨⟨_, rfl, LeO.refl _ _⟩, ⟨_, rfl, LeO.refl _ _⟩, trivial⟩ ⟨rfl, cut_flr, rfl, rfl, rfl, trivial⟩ ⟨⟨by decide, rfl⟩, ⟨by decide, ClO.rc _ _ _⟩, trivial⟩⟩
  · have hlt : i = f.length := by simp at hlt; omega
    have ef : flF f g i = f.filter fun x => decide (x.1 ≠ g) := by show (f.take i).filter _ = _; rw [hlt, List.take_length]
    (conv => arg 4; whnf); repeat (refine ⟨rfl, ?_⟩; conv => arg 4; whnf)
    refine fin_exit ?_
    show holds _ _ _ _
    conv => arg 4; whnf
    refine ⟨fun hn => ?_, fun hn => ?_⟩
    · have hn : n > 0 := by simpa using hn
      have ep : (flF f g i).map flrA ++ [flrA (g, n)] = (flPut f g n).map flrA := by rw [ef]; unfold flPut; rw [if_pos hn, List.map_append]; rfl
      (conv => arg 4; whnf); repeat (refine ⟨rfl, ?_⟩; conv => arg 4; whnf)
      refine ⟨⟨rfl, sizeOk 24 rfl (by simp only [List.length_append, List.length_map, List.length_cons, List.length_nil]; omega)⟩, ?_⟩
      (conv => arg 4; whnf); repeat (refine ⟨rfl, ?_⟩; conv => arg 4; whnf)
      exact ⟨by decide, Le.refl _ _, ⟨⟨_, rfl, LeL.cons (Le.refl _ _) (LeL.cons (Le.noneOf ep) (LeL.nil _))⟩, trivial⟩, Cl.tup ClL.nil _, ⟨⟨by decide, ClO.rc _ _ _⟩, trivial⟩⟩
    · have hn : ¬ n > 0 := by simpa using hn
      have ep : (flF f g i).map flrA = (flPut f g n).map flrA := by rw [ef]; unfold flPut; rw [if_neg hn, List.append_nil]
      (conv => arg 4; whnf); repeat (refine ⟨rfl, ?_⟩; conv => arg 4; whnf)
      exact ⟨by decide, Le.refl _ _, ⟨⟨_, rfl, LeL.cons (Le.refl _ _) (LeL.cons (Le.noneOf ep) (LeL.nil _))⟩, trivial⟩, Cl.tup ClL.nil _, ⟨⟨by decide, ClO.rc _ _ _⟩, trivial⟩⟩
theorem flPut_len (f : List (List UInt8 × Int)) (g : List UInt8) (n : Int) : (flPut f g n).length ≤ f.length + 1 := by
  unfold flPut
  have := List.length_filter_le (fun x : List UInt8 × Int => decide (x.1 ≠ g)) f
  rw [List.length_append]
  refine Nat.add_le_add this ?_
  split <;> simp
theorem refGen {l : List Ent} {f : List (List UInt8 × Int)} {g : List UInt8} {n : Int} (hf : f.length ≤ 1000000) (hg : g.length ≤ 1000000) : CallOK Try.prog 76 [.ptr 0 0, .str g, .int .i64 n] [(0, rcO l f)] 1 (Out (.int .i64 (if mayG g n then 0 else 1)) [(0, rcO l (if mayG g n then flPut f g (max n (flOf f g)) else f))] 1) := by
  refine CallOK.fit (by decide) ?_
  refine callOK Try.call76 Try.func76 Try.ntmps76 rfl ?_
  conv => arg 4; whnf
  refine call0 (refTopic hg) (by (repeat' (first | with_reducible assumption | exact ClL.nil | exact Cl.int _ _ | exact Cl.bool _ | exact Cl.bl _ | exact Cl.bs _ | exact Cl.str _ | exact Cl.nils | exact Cl.nilp | exact Cl.rec _ | exact Cl.bat _ | exact Cl.recsV _ | exact Cl.strsV _ | exact Cl.intsV _ | exact Cl.req _ | exact Cl.rsp _ | exact Cl.reqA _ | exact Cl.rspA _ | exact Cl.batsV _ | exact Cl.prsV _ | exact Cl.atsV _ | exact Cl.entA _ _ | exact Cl.ent _ | exact Cl.rr _ _ | exact Cl.foundA _ | exact Cl.getB _ | exact Cl.encA _ | exact Cl.firstA _ | refine ClL.cons ?_ ?_ | refine Cl.tup ?_ | refine Cl.agg ?_ | exact ClO.RO _ _))) (by (repeat' (first | with_reducible assumption | exact ClL.nil | exact Cl.int _ _ | exact Cl.bool _ | exact Cl.bl _ | exact Cl.bs _ | exact Cl.str _ | exact Cl.nils | exact Cl.nilp | exact Cl.rec _ | exact Cl.bat _ | exact Cl.recsV _ | exact Cl.strsV _ | exact Cl.intsV _ | exact Cl.req _ | exact Cl.rsp _ | exact Cl.reqA _ | exact Cl.rspA _ | exact Cl.batsV _ | exact Cl.prsV _ | exact Cl.atsV _ | exact Cl.entA _ _ | exact Cl.ent _ | exact Cl.rr _ _ | exact Cl.foundA _ | exact Cl.getB _ | exact Cl.encA _ | exact Cl.firstA _ | refine ClL.cons ?_ ?_ | refine Cl.tup ?_ | refine Cl.agg ?_ | exact ClO.RO _ _))) ?_
  (conv => arg 4; whnf); repeat (refine ⟨rfl, ?_⟩; conv => arg 4; whnf)
  have hmay : mayG g n = !(bif bif !nm g then true else decide (n < 0) then true else decide (n > 1099511627776)) := by
    unfold mayG
    rw [Bool.eq_iff_iff]
    cases nm g <;> simp
  refine ⟨fun hb => ?_, fun hb => ?_⟩
  · have hm : mayG g n = false := by rw [hmay, hb]; rfl
    (conv => arg 4; whnf); repeat (refine ⟨rfl, ?_⟩; conv => arg 4; whnf)
    simp only [hm, Bool.false_eq_true, if_false]
    exact ⟨by decide, Le.refl _ _, ⟨⟨_, rfl, LeO.refl _ _⟩, trivial⟩, (Cl.int _ _) _, ⟨⟨by decide, ClO.rc _ _ _⟩, trivial⟩⟩
  · have hm : mayG g n = true := by rw [hmay, hb]; rfl
    (conv => arg 4; whnf); repeat (refine ⟨rfl, ?_⟩; conv => arg 4; whnf)
    refine call1 0 (refFloorOf (l := l) (f := f) (g := g) hf) rfl rfl (ClO.rc _ _) (ClO.rc _ _) (argsO (Cl.str _)) (Cl.int _ _) ?_
    (conv => arg 4; whnf); repeat (refine ⟨rfl, ?_⟩; conv => arg 4; whnf)
    refine call1 0 (refFloor (l := l) (f := f) (g := g) (n := if flOf f g > n then flOf f g else n) hf) rfl rfl (ClO.rc _ _) (ClO.rc _ _) rfl (Cl.tup ClL.nil) ?_
    have eg : flPut f g (if flOf f g > n then flOf f g else n) = flPut f g (max n (flOf f g)) := by rw [maxG']
    (conv => arg 4; whnf); repeat (refine ⟨rfl, ?_⟩; conv => arg 4; whnf)
    simp only [hm, if_true]
    rw [← eg]
    exact ⟨by decide, Le.refl _ _, ⟨⟨_, rfl, LeO.refl _ _⟩, trivial⟩, (Cl.int _ _) _, ⟨⟨by decide, ClO.rc _ _ _⟩, trivial⟩⟩
end Go.Proofs.Ytlifbhcmihnkpaa.Cm

namespace Go.Proofs.Ytlifbhcmihnkpaa.Cm
set_option maxRecDepth 100000
set_option maxHeartbeats 80000000
open Go.Sym

theorem cmAll {m : List (MK × Int)} {f : List (List UInt8 × Int)} : CallOK Try.prog 121 [.ptr 2 0] (TH m f) 3 (Out (.fn 137 [.ptr 3 0]) ((3, .cells [.ptr 2 0]) :: TH m f) 4) := by
  refine callOK Try.call121 Try.func121 Try.ntmps121 rfl ?_
  (conv => arg 4; whnf); repeat (refine ⟨rfl, ?_⟩; conv => arg 4; whnf)
  exact ⟨rfl, rfl, rfl⟩

theorem callKH {P : Program} {Q : AExit → St → Prop} {K : AV → Heap → Nat → Prop} {g : FuncId} {args args0 : List AV} {h : Heap} {nx : Nat} {a1 : AV} {kk : AV → Heap → Nat → R} {m : List (MK × Int)} (i j : Nat)
    (c : CallOK P g args0 (KH m) 2 (Out a1 (KH m) 2)) (hok : okNames nx [i, j] = true) (hij : Nat.beq i j = false)
    (hi : get h i = some (.map (mE m))) (hj : get h j = some (.cells [.map i])) (hargs : args = renL (rho nx [i, j]) args0) (ha : Cl a1)
    (hk : holds P Q K (withHeap (updA (updA h i (.map (mE m))) j (.cells [.map i])) fun h => kk a1 h nx)) : holds P Q K (.call g args h nx kk) :=
  CallOK.frame (names := [i, j]) c hok ⟨⟨by simp, by exact hj⟩, ⟨by simp, by rw [ClO.mE]; exact hi⟩, trivial⟩ hargs fun a0 h0' m' ⟨e1, e2, e3⟩ => by
    subst e1; subst e2; subst e3
    rw [ha]
    have : mergeH nx [i, j] h (KH m) = updA (updA h i (.map (mE m))) j (.cells [.map i]) := by
      show newH nx [i, j] (keepH nx [i, j] (KH m) h) (KH m) = _
      rw [Cm.keepH_two rfl rfl hij (ClO.mE m _) rfl]
      rfl
    rw [this]
    rw [withHeap_eq] at hk
    exact hk

theorem RelM.perm {l : List Ent} {m : List (MK × Int)} (r : RelM l m) : (l.map mkOf).Perm (m.map (·.1)) := by
  have h1 : (l.map mkOf).Nodup := List.pairwise_map.2 (r.srt.imp fun h => ltK_ne h)
  have h2 : ∀ {m : List (MK × Int)}, OnceM m → (m.map (·.1)).Nodup := by
    intro m
    induction m with
    | nil => intro _; exact List.nodup_nil
    | cons x m ih =>
      rintro ⟨q1, q2⟩
      refine List.nodup_cons.2 ⟨fun h => ?_, ih q2⟩
      exact find_mem.2 h q1
  refine (List.perm_ext_iff_of_nodup h1 (h2 r.once)).2 fun k => ?_
  rw [← find_mem, r.look, List.mem_map]
  constructor
  · rintro ⟨x, hx, rfl⟩
    rw [lk_mem r.srt hx]; simp
  · intro h
    cases e : lkL l k with
    | none => exact absurd e h
    | some v => exact lk_some e
theorem RelM.len {l : List Ent} {m : List (MK × Int)} (r : RelM l m) : m.length = l.length := by
  have := r.perm.length_eq
  simpa using this.symm

theorem look_mE0 (m : List (MK × Int)) (k : MK) : lookV (mE m) (kA k) (.int .i64 0) false = .int .i64 ((findM m k).getD 0) := by
  unfold lookV
  rw [find_mE]
  cases findM m k <;> rfl
structure ShI (l : List Ent) (most : Int) where
  i : Nat
  hi : i ≤ l.length
  hm : (i : Int) ≤ most
theorem keys_get {l : List Ent} {i : Nat} (h : i < l.length) : ((l.map mkOf).map kA)[((i : Nat) : Int).toNat]? = some (kA (mkOf l[i])) := by simp [h]

theorem shows {m : List (MK × Int)} {f fl : List (List UInt8 × Int)} {l : List Ent} {most : Int} (rel : RelM l m) (hl : l.length ≤ 1000000) (h0 : 0 ≤ most) :
    CallOK Try.prog 79 [.ptr 2 0, .ptr 3 0, .int .i64 most] ((3, rcO l fl) :: TH m f) 4 (Out (.bool true) ((3, rcO l fl) :: TH m f) 4) := by
  refine CallOK.fit (by decide) ?_
  refine callOK Try.call79 Try.func79 Try.ntmps79 rfl ?_
  (conv => arg 4; whnf); repeat (refine ⟨rfl, ?_⟩; conv => arg 4; whnf)
  refine callOK Try.call121 Try.func121 Try.ntmps121 rfl ?_
  (conv => arg 4; whnf); repeat (refine ⟨rfl, ?_⟩; conv => arg 4; whnf)
  refine ret_in ?_
  show holds _ _ _ _
  conv => arg 4; whnf
  refine callOK Try.call137 Try.func137 Try.ntmps137 rfl ?_
  (conv => arg 4; whnf); repeat (refine ⟨rfl, ?_⟩; conv => arg 4; whnf)
  refine callTab 0 1 2 (cmNone (m := m) (f := f)) rfl rfl rfl rfl rfl rfl rfl rfl rfl ?_
  (conv => arg 4; whnf); repeat (refine ⟨rfl, ?_⟩; conv => arg 4; whnf)
  refine callOK Try.call139 Try.func139 Try.ntmps139 rfl ?_
  (conv => arg 4; whnf); repeat (refine ⟨rfl, ?_⟩; conv => arg 4; whnf)
  refine ret_in ?_
  show holds _ _ _ _
  conv => arg 4; whnf
  refine callKH 0 10 (sortedF rel.perm (List.pairwise_map.2 rel.srt) (by rw [rel.len]; exact hl)) rfl rfl rfl rfl rfl (Cl.keys _) ?_
  (conv => arg 4; whnf); repeat (refine ⟨rfl, ?_⟩; conv => arg 4; whnf)
  refine tri_loopG (ι := ShI l most) (fun x => ⟨[(16, .int .i64 x.i), (15, .int .i64 l.length), (14, .sl .none 3 ((l.map mkOf).map kA)), (0, .yld 9), (1, .ptr 8 0)], [(9, loopOf Try.f79 0 [(7, .ptr 7 0), (6, .ptr 6 0), (5, .ptr 5 0), (4, .ptr 4 0)] 49 .ready), (8, .cells [.ptr 2 0]), (7, .cells [.int .i64 x.i]), (6, .cells [.bl false]), (5, .cells [.int .i64 most]), (4, .cells [.ptr 3 0]), (3, rcO l fl), (2, .cells [.map 0, .map 1]), (1, .map (fE f)), (0, .map (mE m))], 11, 37⟩) (fun x => l.length - x.i) ⟨0, Nat.zero_le _, by omega⟩ ?_ ?_
  · refine WkG.of rfl rfl ⟨Le.refl _ _, Le.of_eq ?_, Le.refl _ _, Le.refl _ _, Le.refl _ _, trivial⟩ ⟨⟨_, rfl, LeO.loop ⟨Le.refl _ _, Le.refl _ _, Le.refl _ _, Le.refl _ _, trivial⟩ rfl rfl rfl⟩, ⟨_, rfl, LeO.refl _ _⟩, ⟨_, rfl, LeO.refl _ _⟩, ⟨_, rfl, LeO.refl _ _⟩, ⟨_, rfl, LeO.refl _ _⟩, ⟨_, rfl, LeO.refl _ _⟩, ⟨_, rfl, LeO.refl _ _⟩, ⟨_, rfl, LeO.refl _ _⟩, ⟨_, rfl, LeO.refl _ _⟩, ⟨_, rfl, LeO.refl _ _⟩, trivial⟩ ⟨rfl, rfl, Cl.keys _ _, rfl, rfl, trivial⟩ ⟨⟨by decide, rfl⟩, ⟨by decide, rfl⟩, ⟨by decide, rfl⟩, ⟨by decide, rfl⟩, ⟨by decide, rfl⟩, ⟨by decide, rfl⟩, ⟨by decide, ClO.rc _ _ _⟩, ⟨by decide, rfl⟩, ⟨by decide, ClO.fE _ _⟩, ⟨by decide, ClO.mE _ _⟩, trivial⟩
    show AV.int .i64 (((l.map mkOf).map kA).length : Int) = _
    rw [List.length_map, List.length_map]
  intro y
  have hyi := y.hi
  (conv => arg 4; whnf); repeat (refine ⟨rfl, ?_⟩; conv => arg 4; whnf)
  refine ⟨fun h => ?_, fun h => ?_⟩
  · have hi : y.i < l.length := by simp at h; omega
    (conv => arg 4; whnf); repeat (refine ⟨rfl, ?_⟩; conv => arg 4; whnf)
    refine ⟨kA (mkOf l[y.i]), ⟨by omega, keys_get hi⟩, ?_⟩
    (conv => arg 4; whnf); repeat (refine ⟨rfl, ?_⟩; conv => arg 4; whnf)
    have hlk : lookV (mE m) (kA (mkOf l[y.i])) (.int .i64 0) false = .int .i64 l[y.i].o := by rw [look_mE0, rel.at (List.getElem?_eq_getElem hi)]
    refine ⟨.int .i64 l[y.i].o, ⟨by decide, congrArg some hlk⟩, ?_⟩
    (conv => arg 4; whnf); repeat (refine ⟨rfl, ?_⟩; conv => arg 4; whnf)
    refine ⟨askM m (mkOf l[y.i]), ?_⟩
    (conv => arg 4; whnf); repeat (refine ⟨rfl, ?_⟩; conv => arg 4; whnf)
    refine round_in ?_
    (conv => arg 4; whnf); repeat (refine ⟨rfl, ?_⟩; conv => arg 4; whnf)
    refine ⟨fun hb => ?_, fun hb => ?_⟩
    · have hb : (y.i : Int) = most := by have := y.hm; simp at hb; omega
      (conv => arg 4; whnf); repeat (refine ⟨rfl, ?_⟩; conv => arg 4; whnf)
      refine ⟨fun _ => ?_, fun h => absurd h (by first | (simp; done) | (simp [u8s]; done))⟩
      conv => arg 4; whnf
      refine fin_ret ?_
      show holds _ _ _ _
      conv => arg 4; whnf
      refine ret_in ?_
      show holds _ _ _ _
      conv => arg 4; whnf
      refine ⟨by decide, Le.of_eq (congrArg AV.bool ?_), ⟨⟨_, rfl, LeO.refl _ _⟩, ⟨_, rfl, LeO.refl _ _⟩, ⟨_, rfl, LeO.refl _ _⟩, ⟨_, rfl, LeO.refl _ _⟩, trivial⟩, (Cl.bool _) _, ⟨⟨by decide, ClO.rc _ _ _⟩, ⟨by decide, rfl⟩, ⟨by decide, ClO.fE _ _⟩, ⟨by decide, ClO.mE _ _⟩, trivial⟩⟩
      rw [ents_length, beq_iff_eq]
      split <;> omega
    · have hb : (y.i : Int) < most := by simp at hb; omega
      (conv => arg 4; whnf); repeat (refine ⟨rfl, ?_⟩; conv => arg 4; whnf)
      refine ⟨fun h' => absurd h' (by rw [ents_length]; simp; omega), fun _ => ?_⟩
      (conv => arg 4; whnf); repeat (refine ⟨rfl, ?_⟩; conv => arg 4; whnf)
      refine ⟨l[y.i].av, ⟨by omega, ents_get (List.getElem?_eq_getElem hi)⟩, ?_⟩
      (conv => arg 4; whnf); repeat (refine ⟨rfl, ?_⟩; conv => arg 4; whnf)
      refine call0 (made18 (e := l[y.i])) (ClL.cons (Cl.ent _) ClL.nil) (Cl.ent _) ?_
      (conv => arg 4; whnf); repeat (refine ⟨rfl, ?_⟩; conv => arg 4; whnf)
      refine ⟨⟨by decide +kernel, by decide +kernel⟩, ?_⟩
      (conv => arg 4; whnf); repeat (refine ⟨rfl, ?_⟩; conv => arg 4; whnf)
      refine ⟨fun h' => absurd h' (by simp [mkOf]), fun _ => ?_⟩
      (conv => arg 4; whnf); repeat (refine ⟨rfl, ?_⟩; conv => arg 4; whnf)
      refine ⟨fun h => absurd h (by first | (simp; done) | (simp [u8s]; done)), fun _ => ?_⟩
      conv => arg 4; whnf
      refine ⟨⟨y.i + 1, hi, by omega⟩, by show l.length - (y.i + 1) < l.length - y.i; omega, WkG.of rfl rfl ⟨Le.of_eq (succ_int (by omega)), Le.refl _ _, Le.refl _ _, Le.refl _ _, Le.refl _ _, trivial⟩ ⟨⟨_, rfl, LeO.refl _ _⟩, ⟨_, rfl, LeO.refl _ _⟩, ⟨_, rfl, LeL.cons (Le.of_eq (succ_int (by omega))) (LeL.nil _)⟩, ⟨_, rfl, LeO.refl _ _⟩, ⟨_, rfl, LeO.refl _ _⟩, ⟨_, rfl, LeO.refl _ _⟩, ⟨_, rfl, LeO.refl _ _⟩, ⟨_, rfl, LeO.refl _ _⟩, ⟨_, rfl, LeO.refl _ _⟩, ⟨_, rfl, LeO.refl _ _⟩, trivial⟩ ⟨rfl, rfl, Cl.keys _ _, rfl, rfl, trivial⟩ ⟨⟨by decide, rfl⟩, ⟨by decide, rfl⟩, ⟨by decide, rfl⟩, ⟨by decide, rfl⟩, ⟨by decide, rfl⟩, ⟨by decide, rfl⟩, ⟨by decide, ClO.rc _ _ _⟩, ⟨by decide, rfl⟩, ⟨by decide, ClO.fE _ _⟩, ⟨by decide, ClO.mE _ _⟩, trivial⟩⟩
  · have hi : y.i = l.length := by simp at h; omega
    (conv => arg 4; whnf); repeat (refine ⟨rfl, ?_⟩; conv => arg 4; whnf)
    refine fin_exit ?_
    show holds _ _ _ _
    conv => arg 4; whnf
    refine ret_in ?_
    show holds _ _ _ _
    conv => arg 4; whnf
    refine ⟨by decide, Le.of_eq (congrArg AV.bool ?_), ⟨⟨_, rfl, LeO.refl _ _⟩, ⟨_, rfl, LeO.refl _ _⟩, ⟨_, rfl, LeO.refl _ _⟩, ⟨_, rfl, LeO.refl _ _⟩, trivial⟩, (Cl.bool _) _, ⟨⟨by decide, ClO.rc _ _ _⟩, ⟨by decide, rfl⟩, ⟨by decide, ClO.fE _ _⟩, ⟨by decide, ClO.mE _ _⟩, trivial⟩⟩
    have := y.hm
    rw [ents_length, beq_iff_eq]
    split <;> omega
end Go.Proofs.Ytlifbhcmihnkpaa.Cm

namespace Go.Proofs.Ytlifbhcmihnkpaa.Cm
set_option maxRecDepth 100000
set_option maxHeartbeats 80000000
open Go.Sym

inductive Pl where
  | put (e : Ent)
  | drop (e : Ent)
  | gen (g : List UInt8) (n : Int)
  | del (g : List UInt8)

/-- A text that bytes begin with; a number that they are. -/
def rdT (b : List UInt8) : Option (List UInt8 × List UInt8) := if (bytesR b 0 20).2.2 = 0 then some ((bytesR b 0 20).1, (bytesR b 0 20).2.1) else none
def rdN (b : List UInt8) : Option Int := if (numR b 0).2.2 = 0 ∧ (numR b 0).2.1 = [] then some (numR b 0).1 else none
def rdV (r : Rec) : Option Int := if r.hv then rdN r.val else some 0
def rdO (hv : Bool) (v : Int) (s2 r2 : List UInt8) : Option Pl :=
  match rdT r2 with
  | none => none
  | some (s3, r3) => match rdN r3 with
    | none => none
    | some p => if mayE ⟨s2, s3, p, v⟩ then some (if hv then .put ⟨s2, s3, p, v⟩ else .drop ⟨s2, s3, p, v⟩) else none
def rdG (hv : Bool) (v : Int) (s2 r2 : List UInt8) : Option Pl := if r2 = [] ∧ mayG s2 v = true then some (if hv then .gen s2 v else .del s2) else none
def parse (r : Rec) : Option Pl :=
  match rdV r with
  | none => none
  | some v => if r.hk = false then none else match rdT r.key with
    | none => none
    | some (s1, r1) => match rdT r1 with
      | none => none
      | some (s2, r2) => if s1 = [111] then rdO r.hv v s2 r2 else if s1 = [103] then rdG r.hv v s2 r2 else none

def plM (m : List (MK × Int)) : Option Pl → List (MK × Int)
  | some (.put e) => setM m (mkOf e) e.o
  | some (.drop e) => delM m (mkOf e)
  | _ => m
def plF (f : List (List UInt8 × Int)) : Option Pl → List (List UInt8 × Int)
  | some (.gen g n) => setM f g (max ((findM f g).getD 0) n)
  | some (.del g) => delM f g
  | _ => f
def plL (l : List Ent) : Option Pl → List Ent
  | some (.put e) => putL e l
  | some (.drop e) => dropL (mkOf e) l
  | _ => l
def plG (F : List (List UInt8 × Int)) : Option Pl → List (List UInt8 × Int)
  | some (.gen g n) => flPut F g (max n (flOf F g))
  | some (.del g) => flPut F g 0
  | _ => F
def plE : Option Pl → Int
  | some _ => 0
  | none => 2

theorem bytesR_err {b : List UInt8} {e most : Int} (h : e ≠ 0) : bytesR b e most = ([], b, e) := by unfold bytesR; rw [if_pos h]
theorem numR_err {b : List UInt8} {e : Int} (h : e ≠ 0) : numR b e = (0, b, e) := by unfold numR; rw [if_pos h]
theorem rdT_ok {b s r : List UInt8} {e : Int} (h : bytesR b 0 20 = (s, r, e)) (he : e = 0) : rdT b = some (s, r) := by
  unfold rdT; rw [h]; simp [he]
theorem rdT_no {b s r : List UInt8} {e : Int} (h : bytesR b 0 20 = (s, r, e)) (he : e ≠ 0) : rdT b = none := by
  unfold rdT; rw [h]; simp [he]
theorem rdN_ok {b r : List UInt8} {n e : Int} (h : numR b 0 = (n, r, e)) (he : e = 0) (hr : r = []) : rdN b = some n := by
  unfold rdN; rw [h]; simp [he, hr]
theorem rdN_no {b r : List UInt8} {n e : Int} (h : numR b 0 = (n, r, e)) (he : ¬ (e = 0 ∧ r = [])) : rdN b = none := by
  unfold rdN; rw [h]; simp only; rw [if_neg he]

/-- What the program's reader saw, of an entry's record. -/
theorem parse_o {r : Rec} {s2 s3 r1 r2 r3 r4 : List UInt8} {p e1 e2 e3 e4 : Int} (h1 : bytesR r.key 0 20 = ([111], r1, e1)) (h2 : bytesR r1 e1 20 = (s2, r2, e2)) (h3 : bytesR r2 e2 20 = (s3, r3, e3)) (h4 : numR r3 e3 = (p, r4, e4)) :
    (∀ v, rdV r = some v → r.hk = true → e4 = 0 → r4 = [] → parse r = if mayE ⟨s2, s3, p, v⟩ then some (if r.hv then .put ⟨s2, s3, p, v⟩ else .drop ⟨s2, s3, p, v⟩) else none) ∧
    (rdV r = none ∨ r.hk = false ∨ e4 ≠ 0 ∨ r4 ≠ [] → parse r = none) := by
  unfold parse
  cases hv : rdV r with
  | none => exact ⟨fun v h => (by cases h), fun _ => rfl⟩
  | some v =>
    dsimp only
    by_cases hk : r.hk = false
    · rw [if_pos hk]
      exact ⟨fun v _ h => (by rw [hk] at h; cases h), fun _ => rfl⟩
    · rw [if_neg hk]
      by_cases z1 : e1 = 0
      · rw [rdT_ok h1 z1]
        subst z1
        dsimp only
        by_cases z2 : e2 = 0
        · rw [rdT_ok h2 z2]
          subst z2
          dsimp only
          rw [if_pos rfl]
          unfold rdO
          by_cases z3 : e3 = 0
          · rw [rdT_ok h3 z3]
            subst z3
            dsimp only
            by_cases z4 : e4 = 0 ∧ r4 = []
            · rw [rdN_ok h4 z4.1 z4.2]
              refine ⟨fun v' h => ?_, fun h => ?_⟩
              · cases h; exact fun _ _ _ => rfl
              · rcases h with h | h | h | h
                · cases h
                · exact absurd h hk
                · exact absurd z4.1 h
                · exact absurd z4.2 h
            · rw [rdN_no h4 z4]
              exact ⟨fun v _ _ h h' => absurd ⟨h, h'⟩ z4, fun _ => rfl⟩
          · rw [rdT_no h3 z3]
            rw [numR_err z3] at h4
            cases h4
            exact ⟨fun v _ _ h => absurd h z3, fun _ => rfl⟩
        · rw [rdT_no h2 z2]
          rw [bytesR_err z2] at h3
          cases h3
          rw [numR_err z2] at h4
          cases h4
          exact ⟨fun v _ _ h => absurd h z2, fun _ => rfl⟩
      · rw [rdT_no h1 z1]
        rw [bytesR_err z1] at h2
        cases h2
        rw [bytesR_err z1] at h3
        cases h3
        rw [numR_err z1] at h4
        cases h4
        exact ⟨fun v _ _ h => absurd h z1, fun _ => rfl⟩
theorem parse_n {r : Rec} {s1 s2 r1 r2 : List UInt8} {e1 e2 : Int} (h1 : bytesR r.key 0 20 = (s1, r1, e1)) (hs : s1 ≠ [111]) (h2 : bytesR r1 e1 20 = (s2, r2, e2)) :
    (∀ v, rdV r = some v → r.hk = true → e2 = 0 → r2 = [] → parse r = if s1 = [103] then (if mayG s2 v then some (if r.hv then .gen s2 v else .del s2) else none) else none) ∧
    (rdV r = none ∨ r.hk = false ∨ e2 ≠ 0 ∨ r2 ≠ [] → parse r = none) := by
  unfold parse
  cases hv : rdV r with
  | none => exact ⟨fun v h => (by cases h), fun _ => rfl⟩
  | some v =>
    dsimp only
    by_cases hk : r.hk = false
    · rw [if_pos hk]
      exact ⟨fun v _ h => (by rw [hk] at h; cases h), fun _ => rfl⟩
    · rw [if_neg hk]
      by_cases z1 : e1 = 0
      · rw [rdT_ok h1 z1]
        subst z1
        dsimp only
        by_cases z2 : e2 = 0
        · rw [rdT_ok h2 z2]
          subst z2
          dsimp only
          rw [if_neg hs]
          unfold rdG
          refine ⟨fun v' h _ _ hr => ?_, fun h => ?_⟩
          · cases h
            by_cases hg : s1 = [103]
            · rw [if_pos hg, if_pos hg]
              by_cases hm : mayG s2 v = true
              · rw [if_pos ⟨hr, hm⟩, if_pos hm]
              · rw [if_neg (fun h => hm h.2), if_neg hm]
            · rw [if_neg hg, if_neg hg]
          · rcases h with h | h | h | h
            · cases h
            · exact absurd h hk
            · exact absurd rfl h
            · by_cases hg : s1 = [103]
              · rw [if_pos hg, if_neg (fun h' => h h'.1)]
              · rw [if_neg hg]
        · rw [rdT_no h2 z2]
          exact ⟨fun v _ _ h => absurd h z2, fun _ => rfl⟩
      · rw [rdT_no h1 z1]
        rw [bytesR_err z1] at h2
        cases h2
        exact ⟨fun v _ _ h => absurd h z1, fun _ => rfl⟩
theorem RelM.pl {l : List Ent} {m : List (MK × Int)} (r : RelM l m) (p : Option Pl) : RelM (plL l p) (plM m p) := by
  rcases p with _ | (e | e | _ | _)
  · exact r
  · exact r.put e
  · exact r.drop _
  · exact r
  · exact r
theorem parse_gen {r : Rec} {g : List UInt8} {n : Int} (h : parse r = some (.gen g n)) : mayG g n = true := by
  unfold parse at h
  repeat' (split at h)
  all_goals try (cases h; done)
  · unfold rdO at h
    repeat' (split at h)
    all_goals (cases h; done)
  · unfold rdG at h
    split at h
    · rename_i hc
      split at h
      · cases h; exact hc.2
      · cases h
    · cases h
theorem RelF.pl {F f : List (List UInt8 × Int)} (r : RelF F f) {p : Option Pl} (hp : ∀ g n, p = some (.gen g n) → mayG g n = true) : RelF (plG F p) (plF f p) := by
  rcases p with _ | (_ | _ | ⟨g, n⟩ | g)
  · exact r
  · exact r
  · exact r
  · have h := hp g n rfl
    have := mayG_nums h
    exact r.gen g n (by unfold mayG at h; simp at h; omega)
  · exact r.del g
end Go.Proofs.Ytlifbhcmihnkpaa.Cm

namespace Go.Proofs.Ytlifbhcmihnkpaa.Cm
set_option maxRecDepth 100000
set_option maxHeartbeats 80000000
open Go.Sym

def strs (l : List (List UInt8)) : List AV := l.map AV.str
theorem ClL.strs (l : List (List UInt8)) : ClL (strs l) := ClL.map Cl.str l
theorem strs_length (l : List (List UInt8)) : (strs l).length = l.length := by simp [strs]

/-- Texts one behind the other. -/
def textsF : Nat → List (List UInt8) → List UInt8 → Option (List (List UInt8) × List UInt8)
  | 0, acc, p => some (acc, p)
  | n + 1, acc, p => match rdT p with
    | none => none
    | some (s, r) => textsF n (acc ++ [s]) r
def txA : Option (List (List UInt8) × List UInt8) → AV
  | none => .tup [.sl .none 0 [], bs [], .bool false]
  | some (l, r) => .tup [.sl .none 0 (strs l), bs r, .bool true]
theorem Cl.txA (x : Option (List (List UInt8) × List UInt8)) : Cl (txA x) := by
  rcases x with _ | ⟨l, r⟩
  · exact Cl.tup (ClL.cons (Cl.sl ClL.nil) (ClL.cons (Cl.bs _) (ClL.cons (Cl.bool _) ClL.nil)))
  · exact Cl.tup (ClL.cons (Cl.sl (ClL.strs l)) (ClL.cons (Cl.bs _) (ClL.cons (Cl.bool _) ClL.nil)))
theorem bytesA_yes {b s r : List UInt8} (h : rdT b = some (s, r)) : bytesA b 20 = .tup [bs s, bs r, .int .i64 0] ∧ r.length ≤ b.length ∧ s.length ≤ b.length := by
  unfold rdT at h
  have hs := (bytesR_suf b 0 20).length_le
  have hl := bytesR_len b 0 20
  split at h
  · rename_i he
    cases h
    refine ⟨?_, hs, hl⟩
    unfold bytesA
    unfold bytesR at he ⊢
    rw [if_neg (by simp)] at he ⊢
    cases hg : getL 0 0 b with
    | none => rw [hg] at he; exact absurd he (by simp)
    | some uk =>
      rw [hg] at he
      dsimp only at he ⊢
      split at he
      · exact absurd he (by simp)
      · rename_i h1
        rw [if_neg h1]
        split at he
        · exact absurd he (by simp)
        · rename_i h2
          rw [if_neg h2, if_neg h1, if_neg h2]
  · cases h
theorem bytesA_no {b : List UInt8} (h : rdT b = none) : ∃ e : Int, e ≠ 0 ∧ bytesA b 20 = .tup [bs [], bs [], .int .i64 e] := by
  unfold rdT at h
  split at h
  · cases h
  · rename_i he
    unfold bytesA
    unfold bytesR at he
    rw [if_neg (by simp)] at he
    cases hg : getL 0 0 b with
    | none => exact ⟨2, by decide, rfl⟩
    | some uk =>
      rw [hg] at he
      dsimp only at he ⊢
      split at he
      · rename_i h1
        rw [if_pos h1]; exact ⟨2, by decide, rfl⟩
      · rename_i h1
        rw [if_neg h1]
        split at he
        · rename_i h2
          rw [if_pos h2]; exact ⟨3, by decide, rfl⟩
        · exact absurd rfl he

structure TxI (n : Nat) (p : List UInt8) where
  i : Nat
  s : Nat
  acc : List (List UInt8)
  q : List UInt8
  hi : i ≤ n
  hl : acc.length = i
  hq : q.length ≤ p.length
  h : textsF n [] p = textsF (n - i) acc q
theorem cut_strs {l : List (List UInt8)} {nx s : Nat} : ren (cut 1 nx) (.sl (.tok 0 s) 0 (strs l)) = .sl (.tok 0 s) 0 (strs l) := by
  simp only [ren, ClL.strs l _, renP, cut_lt (show 0 < 1 by decide)]
theorem refTexts16 {p : List UInt8} {n : Nat} (hp : p.length ≤ 1000000) (hn : n ≤ 1000) : CallOK Try.prog 119 [bs p, .int .i64 n] [] 0 (Out (txA (textsF n [] p)) [] 0) := by
  refine CallOK.fit (by decide) ?_
  refine callOK Try.call119 Try.func119 Try.ntmps119 rfl ?_
  conv => arg 4; whnf
  refine tri_loopG (ι := TxI n p) (fun x => ⟨[(8, .int .i64 x.i), (7, .sl (.tok 0 x.s) 0 (strs x.acc)), (0, bs x.q), (1, .int .i64 n)], [(0, .tip x.s)], 1, 33⟩) (fun x => n - x.i) ⟨0, 0, [], p, Nat.zero_le _, rfl, Nat.le_refl _, rfl⟩ (WkG.tok rfl rfl ⟨Le.refl _ _, Le.nilsTok rfl, Le.refl _ _, Le.refl _ _, trivial⟩ ⟨⟨_, rfl, rfl⟩, trivial⟩ ⟨rfl, rfl, Cl.bs _ _, rfl, trivial⟩ ⟨⟨by decide, rfl⟩, trivial⟩) ?_
  rintro ⟨i, s, acc, q, hi, hl, hq, hh⟩
  dsimp only
  conv => arg 4; whnf
  refine ⟨fun hlt => ?_, fun hlt => ?_⟩
  · have hlt : i < n := by simp at hlt; omega
    have c := refGetBytes (b := q) (most := 20) (by omega)
    have hn1 : n - i = (n - (i + 1)) + 1 := by omega
    rw [hn1] at hh
    have hu : textsF (n - (i + 1) + 1) acc q = match rdT q with
      | none => none
      | some (s, r) => textsF (n - (i + 1)) (acc ++ [s]) r := rfl
    rw [hu] at hh
    (conv => arg 4; whnf); repeat (refine ⟨rfl, ?_⟩; conv => arg 4; whnf)
    cases hr : rdT q with
    | none =>
      rw [hr] at hh
      dsimp only at hh
      obtain ⟨e, he, hb⟩ := bytesA_no hr
      rw [hb] at c
      refine call0 c (by (repeat' (first | with_reducible assumption | exact ClL.nil | exact Cl.int _ _ | exact Cl.bool _ | exact Cl.bl _ | exact Cl.bs _ | exact Cl.str _ | exact Cl.nils | exact Cl.nilp | exact Cl.rec _ | exact Cl.bat _ | exact Cl.recsV _ | exact Cl.strsV _ | exact Cl.intsV _ | exact Cl.req _ | exact Cl.rsp _ | exact Cl.reqA _ | exact Cl.rspA _ | exact Cl.batsV _ | exact Cl.prsV _ | exact Cl.atsV _ | exact Cl.entA _ _ | exact Cl.ent _ | exact Cl.rr _ _ | exact Cl.foundA _ | exact Cl.getB _ | exact Cl.encA _ | exact Cl.firstA _ | refine ClL.cons ?_ ?_ | refine Cl.tup ?_ | refine Cl.agg ?_ | exact ClO.RO _ _))) (by (repeat' (first | with_reducible assumption | exact ClL.nil | exact Cl.int _ _ | exact Cl.bool _ | exact Cl.bl _ | exact Cl.bs _ | exact Cl.str _ | exact Cl.nils | exact Cl.nilp | exact Cl.rec _ | exact Cl.bat _ | exact Cl.recsV _ | exact Cl.strsV _ | exact Cl.intsV _ | exact Cl.req _ | exact Cl.rsp _ | exact Cl.reqA _ | exact Cl.rspA _ | exact Cl.batsV _ | exact Cl.prsV _ | exact Cl.atsV _ | exact Cl.entA _ _ | exact Cl.ent _ | exact Cl.rr _ _ | exact Cl.foundA _ | exact Cl.getB _ | exact Cl.encA _ | exact Cl.firstA _ | refine ClL.cons ?_ ?_ | refine Cl.tup ?_ | refine Cl.agg ?_ | exact ClO.RO _ _))) ?_
      (conv => arg 4; whnf); repeat (refine ⟨rfl, ?_⟩; conv => arg 4; whnf)
      refine ⟨fun _ => ?_, fun h' => absurd h' (by simp [he])⟩
      (conv => arg 4; whnf); repeat (refine ⟨rfl, ?_⟩; conv => arg 4; whnf)
      refine fin_ret ?_
      show holds _ _ _ _
      conv => arg 4; whnf
      rw [hh]
      exact ⟨by decide, Le.tup (LeL.cons Le.nils (LeL.cons Le.nils (LeL.cons Le.bl (LeL.nil _)))), trivial, Cl.txA none _, trivial⟩
    | some sr =>
      obtain ⟨t, r⟩ := sr
      rw [hr] at hh
      dsimp only at hh
      obtain ⟨hb, l1, l2⟩ := bytesA_yes hr
      rw [hb] at c
      refine call0 c (by (repeat' (first | with_reducible assumption | exact ClL.nil | exact Cl.int _ _ | exact Cl.bool _ | exact Cl.bl _ | exact Cl.bs _ | exact Cl.str _ | exact Cl.nils | exact Cl.nilp | exact Cl.rec _ | exact Cl.bat _ | exact Cl.recsV _ | exact Cl.strsV _ | exact Cl.intsV _ | exact Cl.req _ | exact Cl.rsp _ | exact Cl.reqA _ | exact Cl.rspA _ | exact Cl.batsV _ | exact Cl.prsV _ | exact Cl.atsV _ | exact Cl.entA _ _ | exact Cl.ent _ | exact Cl.rr _ _ | exact Cl.foundA _ | exact Cl.getB _ | exact Cl.encA _ | exact Cl.firstA _ | refine ClL.cons ?_ ?_ | refine Cl.tup ?_ | refine Cl.agg ?_ | exact ClO.RO _ _))) (by (repeat' (first | with_reducible assumption | exact ClL.nil | exact Cl.int _ _ | exact Cl.bool _ | exact Cl.bl _ | exact Cl.bs _ | exact Cl.str _ | exact Cl.nils | exact Cl.nilp | exact Cl.rec _ | exact Cl.bat _ | exact Cl.recsV _ | exact Cl.strsV _ | exact Cl.intsV _ | exact Cl.req _ | exact Cl.rsp _ | exact Cl.reqA _ | exact Cl.rspA _ | exact Cl.batsV _ | exact Cl.prsV _ | exact Cl.atsV _ | exact Cl.entA _ _ | exact Cl.ent _ | exact Cl.rr _ _ | exact Cl.foundA _ | exact Cl.getB _ | exact Cl.encA _ | exact Cl.firstA _ | refine ClL.cons ?_ ?_ | refine Cl.tup ?_ | refine Cl.agg ?_ | exact ClO.RO _ _))) ?_
      (conv => arg 4; whnf); repeat (refine ⟨rfl, ?_⟩; conv => arg 4; whnf)
      refine ⟨fun h' => absurd h' (by simp), fun _ => ?_⟩
      (conv => arg 4; whnf); repeat (refine ⟨rfl, ?_⟩; conv => arg 4; whnf)
      refine ⟨t, rfl, ?_⟩
      (conv => arg 4; whnf); repeat (refine ⟨rfl, ?_⟩; conv => arg 4; whnf)
      refine ⟨⟨rfl, sizeOk 16 rfl (by rw [List.length_append, strs_length, hl]; simp only [List.length_cons, List.length_nil]; omega)⟩, ?_⟩
      (conv => arg 4; whnf); repeat (refine ⟨rfl, ?_⟩; conv => arg 4; whnf)
      exact ⟨⟨i + 1, s + 1, acc ++ [t], r, hlt, by rw [List.length_append, hl]; rfl, by omega, hh⟩, by show n - (i + 1) < n - i; omega, WkG.of rfl rfl ⟨Le.of_eq (succ18 (by omega)), Le.of_eq (congrArg (AV.sl _ 0) (by simp [strs])), Le.refl _ _, Le.refl _ _, trivial⟩ ⟨⟨_, rfl, LeO.refl _ _⟩, trivial⟩ ⟨rfl, cut_strs, Cl.bs _ _, rfl, trivial⟩ ⟨⟨by decide, rfl⟩, trivial⟩⟩
  · have hlt : i = n := by simp at hlt; omega
    rw [hlt, Nat.sub_self] at hh
    (conv => arg 4; whnf); repeat (refine ⟨rfl, ?_⟩; conv => arg 4; whnf)
    refine fin_exit ?_
    show holds _ _ _ _
    conv => arg 4; whnf
    rw [hh]
    exact ⟨by decide, Le.tup (LeL.cons Le.none (LeL.cons (Le.refl _ _) (LeL.cons Le.bl (LeL.nil _)))), trivial, Cl.txA (some (acc, q)) _, trivial⟩
theorem tx1_no {p : List UInt8} (h : rdT p = none) : textsF 1 [] p = none := by simp [textsF, h]
theorem tx1_yes {p s r : List UInt8} (h : rdT p = some (s, r)) : textsF 1 [] p = some ([s], r) := by simp [textsF, h]
theorem tx2_no {p : List UInt8} (h : rdT p = none) : textsF 2 [] p = none := by simp [textsF, h]
theorem tx2_no2 {p s r : List UInt8} (h : rdT p = some (s, r)) (h2 : rdT r = none) : textsF 2 [] p = none := by simp [textsF, h, h2]
theorem tx2_yes {p s r s2 r2 : List UInt8} (h : rdT p = some (s, r)) (h2 : rdT r = some (s2, r2)) : textsF 2 [] p = some ([s, s2], r2) := by simp [textsF, h, h2]

/-- What the document's number is. -/
def gN (b : List UInt8) : Int := match getL 0 0 b with
  | some (u, _) => zag u
  | none => 0
def gK (b : List UInt8) : Int := match getL 0 0 b with
  | some (_, k) => k
  | none => 0
theorem getB_gN (b : List UInt8) : getB b = .tup [.int .i64 (gN b), .int .i64 (gK b)] := by
  unfold getB gN gK
  cases getL 0 0 b <;> rfl
theorem rdN_gK (b : List UInt8) : rdN b = if gK b > 0 ∧ gK b = b.length then some (gN b) else none := by
  cases hg : getL 0 0 b with
  | none =>
    have e1 : numR b 0 = (0, b, 2) := by unfold numR; rw [if_neg (by simp), hg]
    have e2 : gK b = 0 := by unfold gK; rw [hg]
    rw [rdN_no e1 (by simp), if_neg (by omega)]
  | some uk =>
    obtain ⟨u, k⟩ := uk
    have hk := getL_le hg
    have e1 : numR b 0 = (zag u, b.drop k, 0) := by unfold numR; rw [if_neg (by simp), hg]
    have e2 : gK b = k := by unfold gK; rw [hg]
    have e3 : gN b = zag u := by unfold gN; rw [hg]
    by_cases h : k = b.length
    · rw [rdN_ok e1 rfl (by rw [h, List.drop_length]), if_pos (by omega), e3]
    · rw [rdN_no e1 (fun h' => h (by have := List.drop_eq_nil_iff.1 h'.2; omega)), if_neg (by omega)]

def parse2 (hv : Bool) (v : Int) (s1 r1 : List UInt8) : Option Pl :=
  match rdT r1 with
  | none => none
  | some (s2, r2) => if s1 = [111] then rdO hv v s2 r2 else if s1 = [103] then rdG hv v s2 r2 else none
theorem parse_none {r : Rec} (h : rdV r = none ∨ r.hk = false ∨ rdT r.key = none) : parse r = none := by
  unfold parse
  cases hv : rdV r with
  | none => rfl
  | some v =>
    dsimp only
    by_cases hk : r.hk = false
    · rw [if_pos hk]
    · rw [if_neg hk]
      rcases h with h | h | h
      · rw [hv] at h; cases h
      · exact absurd h hk
      · rw [h]
theorem parse_some {r : Rec} {v : Int} {s1 r1 : List UInt8} (hv : rdV r = some v) (hk : r.hk = true) (ht : rdT r.key = some (s1, r1)) : parse r = parse2 r.hv v s1 r1 := by
  unfold parse parse2
  rw [hv, hk, ht]
  rfl

/-- Is the value one? -/
abbrev oneB (r : Rec) : Bool := bif !r.hv then true else bif decide (gK r.val > 0) then gK r.val == ((u8s r.val).length : Int) else false
theorem one_yes {r : Rec} (h : oneB r = true) : rdV r = some (if r.hv then gN r.val else 0) := by
  unfold rdV
  cases hv : r.hv with
  | false => rfl
  | true =>
    simp only [oneB, hv, Bool.not_true, cond_false, u8s_length] at h
    rw [if_pos rfl, rdN_gK, if_pos]
    · rfl
    · cases hp : decide (gK r.val > 0) with
      | false => rw [hp] at h; cases h
      | true => rw [hp] at h; exact ⟨by simpa using hp, by simpa using h⟩
theorem one_no {r : Rec} (h : oneB r = false) : rdV r = none := by
  unfold rdV
  cases hv : r.hv with
  | false => simp [oneB, hv] at h
  | true =>
    simp only [oneB, hv, Bool.not_true, cond_false, u8s_length] at h
    rw [if_pos rfl, rdN_gK, if_neg]
    rintro ⟨h1, h2⟩
    rw [h2] at h1
    simp only [h2, h1, decide_true, cond_true, beq_self_eq_true] at h
    cases h
abbrev notB (r : Rec) (ok : Bool) : Bool := bif bif !r.hk then true else !oneB r then true else !ok
theorem not_yes {r : Rec} (h : notB r true = true) : parse r = none := by
  refine parse_none ?_
  simp only [notB] at h
  cases hk : r.hk with
  | false => exact .inr (.inl rfl)
  | true =>
    rw [hk] at h
    refine .inl (one_no ?_)
    revert h
    generalize oneB r = z
    cases z <;> simp
theorem not_no {r : Rec} (h : notB r true = false) : r.hk = true ∧ rdV r = some (if r.hv then gN r.val else 0) := by
  simp only [notB] at h
  cases hk : r.hk with
  | false => rw [hk] at h; simp at h
  | true =>
    rw [hk] at h
    refine ⟨rfl, one_yes ?_⟩
    revert h
    generalize oneB r = z
    cases z <;> simp

theorem gK_pos (b : List UInt8) : 0 ≤ gK b := by
  unfold gK
  split <;> omega
theorem refGenOk {l : List Ent} {f : List (List UInt8 × Int)} {g : List UInt8} {n : Int} (hf : f.length ≤ 1000000) (hm : mayG g n = true) : CallOK Try.prog 76 [.ptr 0 0, .str g, .int .i64 n] [(0, rcO l f)] 1 (Out (.int .i64 0) [(0, rcO l (flPut f g (max n (flOf f g))))] 1) := by
  have hn := mayG_nums hm
  have c := refGen (l := l) (f := f) (g := g) (n := n) hf (by omega)
  simp only [hm, if_true] at c
  exact c
theorem refPutOk {l : List Ent} {f : List (List UInt8 × Int)} {e : Ent} (hl : l.length ≤ 1000000) (hm : mayE e = true) : CallOK Try.prog 75 [.ptr 0 0, e.av] [(0, rcO l f)] 1 (Out (.int .i64 0) [(0, rcO (putL e l) f)] 1) := by
  have hn := mayE_nums hm
  have c := refPut18 (l := l) (f := f) (e := e) hl (by omega) (by omega)
  simp only [hm, if_true] at c
  exact c

theorem refApply {l : List Ent} {f : List (List UInt8 × Int)} {r : Rec} (hl : l.length ≤ 900000) (hf : f.length ≤ 900000) (hk : r.key.length ≤ 100000) (hv : r.val.length ≤ 100000) :
    CallOK Try.prog 77 [.ptr 0 0, r.av] [(0, rcO l f)] 1 (Out (.int .i64 (plE (parse r))) [(0, rcO (plL l (parse r)) (plG f (parse r)))] 1) := by
  refine CallOK.fit (by decide) ?_
  refine callOK Try.call77 Try.func77 Try.ntmps77 rfl ?_
  have c := refGet (b := r.val) (by omega)
  rw [getB_gN] at c
  conv => arg 4; whnf
  refine call0 c (by (repeat' (first | with_reducible assumption | exact ClL.nil | exact Cl.int _ _ | exact Cl.bool _ | exact Cl.bl _ | exact Cl.bs _ | exact Cl.str _ | exact Cl.nils | exact Cl.nilp | exact Cl.rec _ | exact Cl.bat _ | exact Cl.recsV _ | exact Cl.strsV _ | exact Cl.intsV _ | exact Cl.req _ | exact Cl.rsp _ | exact Cl.reqA _ | exact Cl.rspA _ | exact Cl.batsV _ | exact Cl.prsV _ | exact Cl.atsV _ | exact Cl.entA _ _ | exact Cl.ent _ | exact Cl.rr _ _ | exact Cl.foundA _ | exact Cl.getB _ | exact Cl.encA _ | exact Cl.firstA _ | refine ClL.cons ?_ ?_ | refine Cl.tup ?_ | refine Cl.agg ?_ | exact ClO.RO _ _))) (by (repeat' (first | with_reducible assumption | exact ClL.nil | exact Cl.int _ _ | exact Cl.bool _ | exact Cl.bl _ | exact Cl.bs _ | exact Cl.str _ | exact Cl.nils | exact Cl.nilp | exact Cl.rec _ | exact Cl.bat _ | exact Cl.recsV _ | exact Cl.strsV _ | exact Cl.intsV _ | exact Cl.req _ | exact Cl.rsp _ | exact Cl.reqA _ | exact Cl.rspA _ | exact Cl.batsV _ | exact Cl.prsV _ | exact Cl.atsV _ | exact Cl.entA _ _ | exact Cl.ent _ | exact Cl.rr _ _ | exact Cl.foundA _ | exact Cl.getB _ | exact Cl.encA _ | exact Cl.firstA _ | refine ClL.cons ?_ ?_ | refine Cl.tup ?_ | refine Cl.agg ?_ | exact ClO.RO _ _))) ?_
  (conv => arg 4; whnf); repeat (refine ⟨rfl, ?_⟩; conv => arg 4; whnf)
  refine ⟨fun hh => ?_, fun hh => ?_⟩
  · have hh : r.hv = false := by simpa using hh
    have ev : rdV r = some 0 := by unfold rdV; rw [hh]; rfl
    (conv => arg 4; whnf); repeat (refine ⟨rfl, ?_⟩; conv => arg 4; whnf)
    cases ht : rdT r.key with
    | none =>
      have ct := refTexts16 (p := r.key) (n := 1) (by omega) (by omega)
      rw [tx1_no ht] at ct
      refine call0 ct (by (repeat' (first | with_reducible assumption | exact ClL.nil | exact Cl.int _ _ | exact Cl.bool _ | exact Cl.bl _ | exact Cl.bs _ | exact Cl.str _ | exact Cl.nils | exact Cl.nilp | exact Cl.rec _ | exact Cl.bat _ | exact Cl.recsV _ | exact Cl.strsV _ | exact Cl.intsV _ | exact Cl.req _ | exact Cl.rsp _ | exact Cl.reqA _ | exact Cl.rspA _ | exact Cl.batsV _ | exact Cl.prsV _ | exact Cl.atsV _ | exact Cl.entA _ _ | exact Cl.ent _ | exact Cl.rr _ _ | exact Cl.foundA _ | exact Cl.getB _ | exact Cl.encA _ | exact Cl.firstA _ | refine ClL.cons ?_ ?_ | refine Cl.tup ?_ | refine Cl.agg ?_ | exact ClO.RO _ _))) (Cl.txA none) ?_
      have hp : parse r = none := parse_none (.inr (.inr ht))
      (conv => arg 4; whnf); repeat (refine ⟨rfl, ?_⟩; conv => arg 4; whnf)
      refine ⟨fun _ => ?_, fun h' => absurd (show notB r false = false from h') (by simp)⟩
      rw [hp]
      (conv => arg 4; whnf); repeat (refine ⟨rfl, ?_⟩; conv => arg 4; whnf)
      exact ⟨by decide, Le.refl _ _, ⟨⟨_, rfl, LeO.refl _ _⟩, trivial⟩, (Cl.int _ _) _, ⟨⟨by decide, ClO.rc _ _ _⟩, trivial⟩⟩
    | some sr =>
      obtain ⟨s1, r1⟩ := sr
      have l1 := (bytesA_yes ht).2.1
      have ct := refTexts16 (p := r.key) (n := 1) (by omega) (by omega)
      rw [tx1_yes ht] at ct
      refine call0 ct (by (repeat' (first | with_reducible assumption | exact ClL.nil | exact Cl.int _ _ | exact Cl.bool _ | exact Cl.bl _ | exact Cl.bs _ | exact Cl.str _ | exact Cl.nils | exact Cl.nilp | exact Cl.rec _ | exact Cl.bat _ | exact Cl.recsV _ | exact Cl.strsV _ | exact Cl.intsV _ | exact Cl.req _ | exact Cl.rsp _ | exact Cl.reqA _ | exact Cl.rspA _ | exact Cl.batsV _ | exact Cl.prsV _ | exact Cl.atsV _ | exact Cl.entA _ _ | exact Cl.ent _ | exact Cl.rr _ _ | exact Cl.foundA _ | exact Cl.getB _ | exact Cl.encA _ | exact Cl.firstA _ | refine ClL.cons ?_ ?_ | refine Cl.tup ?_ | refine Cl.agg ?_ | exact ClO.RO _ _))) (Cl.txA (some ([s1], r1))) ?_
      (conv => arg 4; whnf); repeat (refine ⟨rfl, ?_⟩; conv => arg 4; whnf)
      refine ⟨fun h' => ?_, fun h' => ?_⟩
      · rw [not_yes h']
        (conv => arg 4; whnf); repeat (refine ⟨rfl, ?_⟩; conv => arg 4; whnf)
        exact ⟨by decide, Le.refl _ _, ⟨⟨_, rfl, LeO.refl _ _⟩, trivial⟩, (Cl.int _ _) _, ⟨⟨by decide, ClO.rc _ _ _⟩, trivial⟩⟩
      · obtain ⟨k1, -⟩ := not_no h'
        have hp := parse_some ev k1 ht
        simp only [hh, if_true] at hp
        rw [hp]
        (conv => arg 4; whnf); repeat (refine ⟨rfl, ?_⟩; conv => arg 4; whnf)
        refine ⟨.str s1, ⟨by decide, rfl⟩, ?_⟩
        (conv => arg 4; whnf); repeat (refine ⟨rfl, ?_⟩; conv => arg 4; whnf)
        refine ⟨fun hs => ?_, fun hs => ?_⟩
        · have hs : s1 = [103] := by simpa using hs
          (conv => arg 4; whnf); repeat (refine ⟨rfl, ?_⟩; conv => arg 4; whnf)
          cases hg : rdT r1 with
          | none =>
            have cg := refTexts16 (p := r1) (n := 1) (by omega) (by omega)
            rw [tx1_no hg] at cg
            have hn : parse2 false 0 s1 r1 = none := by unfold parse2; rw [hg]
            rw [hn]
            refine call0 cg (by (repeat' (first | with_reducible assumption | exact ClL.nil | exact Cl.int _ _ | exact Cl.bool _ | exact Cl.bl _ | exact Cl.bs _ | exact Cl.str _ | exact Cl.nils | exact Cl.nilp | exact Cl.rec _ | exact Cl.bat _ | exact Cl.recsV _ | exact Cl.strsV _ | exact Cl.intsV _ | exact Cl.req _ | exact Cl.rsp _ | exact Cl.reqA _ | exact Cl.rspA _ | exact Cl.batsV _ | exact Cl.prsV _ | exact Cl.atsV _ | exact Cl.entA _ _ | exact Cl.ent _ | exact Cl.rr _ _ | exact Cl.foundA _ | exact Cl.getB _ | exact Cl.encA _ | exact Cl.firstA _ | refine ClL.cons ?_ ?_ | refine Cl.tup ?_ | refine Cl.agg ?_ | exact ClO.RO _ _))) (Cl.txA none) ?_
            (conv => arg 4; whnf); repeat (refine ⟨rfl, ?_⟩; conv => arg 4; whnf)
            refine ⟨.str [], fun h' => absurd h' (by simp), ?_⟩
            (conv => arg 4; whnf); repeat (refine ⟨rfl, ?_⟩; conv => arg 4; whnf)
            refine ⟨fun _ => ?_, fun h => absurd h (by first | (simp; done) | (simp [u8s]; done))⟩
            conv => arg 4; whnf
            exact ⟨by decide, Le.refl _ _, ⟨⟨_, rfl, LeO.refl _ _⟩, trivial⟩, (Cl.int _ _) _, ⟨⟨by decide, ClO.rc _ _ _⟩, trivial⟩⟩
          | some sr2 =>
            obtain ⟨s2, r2⟩ := sr2
            have l2 := (bytesA_yes hg).2
            have hn : parse2 false 0 s1 r1 = rdG false 0 s2 r2 := by unfold parse2; rw [hg]; simp only [hs]; rfl
            rw [hn]
            have cg := refTexts16 (p := r1) (n := 1) (by omega) (by omega)
            rw [tx1_yes hg] at cg
            refine call0 cg (by (repeat' (first | with_reducible assumption | exact ClL.nil | exact Cl.int _ _ | exact Cl.bool _ | exact Cl.bl _ | exact Cl.bs _ | exact Cl.str _ | exact Cl.nils | exact Cl.nilp | exact Cl.rec _ | exact Cl.bat _ | exact Cl.recsV _ | exact Cl.strsV _ | exact Cl.intsV _ | exact Cl.req _ | exact Cl.rsp _ | exact Cl.reqA _ | exact Cl.rspA _ | exact Cl.batsV _ | exact Cl.prsV _ | exact Cl.atsV _ | exact Cl.entA _ _ | exact Cl.ent _ | exact Cl.rr _ _ | exact Cl.foundA _ | exact Cl.getB _ | exact Cl.encA _ | exact Cl.firstA _ | refine ClL.cons ?_ ?_ | refine Cl.tup ?_ | refine Cl.agg ?_ | exact ClO.RO _ _))) (Cl.txA (some ([s2], r2))) ?_
            (conv => arg 4; whnf); repeat (refine ⟨rfl, ?_⟩; conv => arg 4; whnf)
            refine ⟨.str s2, ctxP_of ⟨by decide, rfl⟩, ?_⟩
            (conv => arg 4; whnf); repeat (refine ⟨rfl, ?_⟩; conv => arg 4; whnf)
            refine ⟨fun h2 => ?_, fun h2 => ?_⟩
            · have hn : rdG false 0 s2 r2 = none := by unfold rdG; rw [if_neg]; rintro ⟨rfl, -⟩; simp [u8s] at h2
              rw [hn]
              (conv => arg 4; whnf); repeat (refine ⟨rfl, ?_⟩; conv => arg 4; whnf)
              exact ⟨by decide, Le.refl _ _, ⟨⟨_, rfl, LeO.refl _ _⟩, trivial⟩, (Cl.int _ _) _, ⟨⟨by decide, ClO.rc _ _ _⟩, trivial⟩⟩
            · have h2 : r2 = [] := by cases r2 with | nil => rfl | cons x y => simp [u8s] at h2
              subst h2
              (conv => arg 4; whnf); repeat (refine ⟨rfl, ?_⟩; conv => arg 4; whnf)
              refine call0 (refTopic (s := s2) (by omega)) (by (repeat' (first | with_reducible assumption | exact ClL.nil | exact Cl.int _ _ | exact Cl.bool _ | exact Cl.bl _ | exact Cl.bs _ | exact Cl.str _ | exact Cl.nils | exact Cl.nilp | exact Cl.rec _ | exact Cl.bat _ | exact Cl.recsV _ | exact Cl.strsV _ | exact Cl.intsV _ | exact Cl.req _ | exact Cl.rsp _ | exact Cl.reqA _ | exact Cl.rspA _ | exact Cl.batsV _ | exact Cl.prsV _ | exact Cl.atsV _ | exact Cl.entA _ _ | exact Cl.ent _ | exact Cl.rr _ _ | exact Cl.foundA _ | exact Cl.getB _ | exact Cl.encA _ | exact Cl.firstA _ | refine ClL.cons ?_ ?_ | refine Cl.tup ?_ | refine Cl.agg ?_ | exact ClO.RO _ _))) (by (repeat' (first | with_reducible assumption | exact ClL.nil | exact Cl.int _ _ | exact Cl.bool _ | exact Cl.bl _ | exact Cl.bs _ | exact Cl.str _ | exact Cl.nils | exact Cl.nilp | exact Cl.rec _ | exact Cl.bat _ | exact Cl.recsV _ | exact Cl.strsV _ | exact Cl.intsV _ | exact Cl.req _ | exact Cl.rsp _ | exact Cl.reqA _ | exact Cl.rspA _ | exact Cl.batsV _ | exact Cl.prsV _ | exact Cl.atsV _ | exact Cl.entA _ _ | exact Cl.ent _ | exact Cl.rr _ _ | exact Cl.foundA _ | exact Cl.getB _ | exact Cl.encA _ | exact Cl.firstA _ | refine ClL.cons ?_ ?_ | refine Cl.tup ?_ | refine Cl.agg ?_ | exact ClO.RO _ _))) ?_
              (conv => arg 4; whnf); repeat (refine ⟨rfl, ?_⟩; conv => arg 4; whnf)
              have hmay : mayG s2 0 = !(bif bif !nm s2 then true else decide ((0 : Int) < 0) then true else decide ((0 : Int) > 1099511627776)) := by
                unfold mayG
                rw [Bool.eq_iff_iff]
                cases nm s2 <;> simp
              refine ⟨fun hb => ?_, fun hb => ?_⟩
              · have hm : mayG s2 0 = false := by rw [hmay, hb]; rfl
                have hn : rdG false 0 s2 [] = none := by unfold rdG; rw [if_neg]; rintro ⟨-, h⟩; rw [hm] at h; cases h
                rw [hn]
                (conv => arg 4; whnf); repeat (refine ⟨rfl, ?_⟩; conv => arg 4; whnf)
                exact ⟨by decide, Le.refl _ _, ⟨⟨_, rfl, LeO.refl _ _⟩, trivial⟩, (Cl.int _ _) _, ⟨⟨by decide, ClO.rc _ _ _⟩, trivial⟩⟩
              · have hm : mayG s2 0 = true := by rw [hmay, hb]; rfl
                have hn : rdG false 0 s2 [] = some (.del s2) := by unfold rdG; rw [if_pos ⟨rfl, hm⟩]; rfl
                rw [hn]
                (conv => arg 4; whnf); repeat (refine ⟨rfl, ?_⟩; conv => arg 4; whnf)
                refine ⟨fun _ => ?_, fun h' => absurd h' (by simp [hh])⟩
                (conv => arg 4; whnf); repeat (refine ⟨rfl, ?_⟩; conv => arg 4; whnf)
                refine ⟨.str s2, ⟨by decide, rfl⟩, ?_⟩
                (conv => arg 4; whnf); repeat (refine ⟨rfl, ?_⟩; conv => arg 4; whnf)
                refine call1 0 (refFloor (l := l) (f := f) (g := s2) (n := 0) (by omega)) rfl rfl (ClO.rc _ _) (ClO.rc _ _) rfl (Cl.tup ClL.nil) ?_
                (conv => arg 4; whnf); repeat (refine ⟨rfl, ?_⟩; conv => arg 4; whnf)
                exact ⟨by decide, Le.refl _ _, ⟨⟨_, rfl, LeO.refl _ _⟩, trivial⟩, (Cl.int _ _) _, ⟨⟨by decide, ClO.rc _ _ _⟩, trivial⟩⟩
        · have hs : s1 ≠ [103] := by simpa using hs
          (conv => arg 4; whnf); repeat (refine ⟨rfl, ?_⟩; conv => arg 4; whnf)
          refine ⟨fun ho => ?_, fun ho => ?_⟩
          · have ho : s1 = [111] := by simpa using ho
            (conv => arg 4; whnf); repeat (refine ⟨rfl, ?_⟩; conv => arg 4; whnf)
            cases hg : rdT r1 with
            | none =>
              have cg := refTexts16 (p := r1) (n := 2) (by omega) (by omega)
              rw [tx2_no hg] at cg
              have hn : parse2 false 0 s1 r1 = none := by unfold parse2; rw [hg]
              rw [hn]
              refine call0 cg (by (repeat' (first | with_reducible assumption | exact ClL.nil | exact Cl.int _ _ | exact Cl.bool _ | exact Cl.bl _ | exact Cl.bs _ | exact Cl.str _ | exact Cl.nils | exact Cl.nilp | exact Cl.rec _ | exact Cl.bat _ | exact Cl.recsV _ | exact Cl.strsV _ | exact Cl.intsV _ | exact Cl.req _ | exact Cl.rsp _ | exact Cl.reqA _ | exact Cl.rspA _ | exact Cl.batsV _ | exact Cl.prsV _ | exact Cl.atsV _ | exact Cl.entA _ _ | exact Cl.ent _ | exact Cl.rr _ _ | exact Cl.foundA _ | exact Cl.getB _ | exact Cl.encA _ | exact Cl.firstA _ | refine ClL.cons ?_ ?_ | refine Cl.tup ?_ | refine Cl.agg ?_ | exact ClO.RO _ _))) (Cl.txA none) ?_
              (conv => arg 4; whnf); repeat (refine ⟨rfl, ?_⟩; conv => arg 4; whnf)
              refine ⟨fun _ => ?_, fun h => absurd h (by first | (simp; done) | (simp [u8s]; done))⟩
              conv => arg 4; whnf
              exact ⟨by decide, Le.refl _ _, ⟨⟨_, rfl, LeO.refl _ _⟩, trivial⟩, (Cl.int _ _) _, ⟨⟨by decide, ClO.rc _ _ _⟩, trivial⟩⟩
            | some sr2 =>
              obtain ⟨s2, r2⟩ := sr2
              have l2 := (bytesA_yes hg).2
              have hn : parse2 false 0 s1 r1 = rdO false 0 s2 r2 := by unfold parse2; rw [hg]; simp only [ho]; rfl
              rw [hn]
              cases h3 : rdT r2 with
              | none =>
                have cg := refTexts16 (p := r1) (n := 2) (by omega) (by omega)
                rw [tx2_no2 hg h3] at cg
                have hn : rdO false 0 s2 r2 = none := by unfold rdO; rw [h3]
                rw [hn]
                refine call0 cg (by (repeat' (first | with_reducible assumption | exact ClL.nil | exact Cl.int _ _ | exact Cl.bool _ | exact Cl.bl _ | exact Cl.bs _ | exact Cl.str _ | exact Cl.nils | exact Cl.nilp | exact Cl.rec _ | exact Cl.bat _ | exact Cl.recsV _ | exact Cl.strsV _ | exact Cl.intsV _ | exact Cl.req _ | exact Cl.rsp _ | exact Cl.reqA _ | exact Cl.rspA _ | exact Cl.batsV _ | exact Cl.prsV _ | exact Cl.atsV _ | exact Cl.entA _ _ | exact Cl.ent _ | exact Cl.rr _ _ | exact Cl.foundA _ | exact Cl.getB _ | exact Cl.encA _ | exact Cl.firstA _ | refine ClL.cons ?_ ?_ | refine Cl.tup ?_ | refine Cl.agg ?_ | exact ClO.RO _ _))) (Cl.txA none) ?_
                (conv => arg 4; whnf); repeat (refine ⟨rfl, ?_⟩; conv => arg 4; whnf)
                refine ⟨fun _ => ?_, fun h => absurd h (by first | (simp; done) | (simp [u8s]; done))⟩
                conv => arg 4; whnf
                exact ⟨by decide, Le.refl _ _, ⟨⟨_, rfl, LeO.refl _ _⟩, trivial⟩, (Cl.int _ _) _, ⟨⟨by decide, ClO.rc _ _ _⟩, trivial⟩⟩
              | some sr3 =>
                obtain ⟨s3, r3⟩ := sr3
                have l3 := (bytesA_yes h3).2
                have cg := refTexts16 (p := r1) (n := 2) (by omega) (by omega)
                rw [tx2_yes hg h3] at cg
                refine call0 cg (by (repeat' (first | with_reducible assumption | exact ClL.nil | exact Cl.int _ _ | exact Cl.bool _ | exact Cl.bl _ | exact Cl.bs _ | exact Cl.str _ | exact Cl.nils | exact Cl.nilp | exact Cl.rec _ | exact Cl.bat _ | exact Cl.recsV _ | exact Cl.strsV _ | exact Cl.intsV _ | exact Cl.req _ | exact Cl.rsp _ | exact Cl.reqA _ | exact Cl.rspA _ | exact Cl.batsV _ | exact Cl.prsV _ | exact Cl.atsV _ | exact Cl.entA _ _ | exact Cl.ent _ | exact Cl.rr _ _ | exact Cl.foundA _ | exact Cl.getB _ | exact Cl.encA _ | exact Cl.firstA _ | refine ClL.cons ?_ ?_ | refine Cl.tup ?_ | refine Cl.agg ?_ | exact ClO.RO _ _))) (Cl.txA (some ([s2, s3], r3))) ?_
                (conv => arg 4; whnf); repeat (refine ⟨rfl, ?_⟩; conv => arg 4; whnf)
                refine ⟨fun h => absurd h (by first | (simp; done) | (simp [u8s]; done)), fun _ => ?_⟩
                conv => arg 4; whnf
                have c3 := refGet (b := r3) (by omega)
                rw [getB_gN] at c3
                refine call0 c3 (by (repeat' (first | with_reducible assumption | exact ClL.nil | exact Cl.int _ _ | exact Cl.bool _ | exact Cl.bl _ | exact Cl.bs _ | exact Cl.str _ | exact Cl.nils | exact Cl.nilp | exact Cl.rec _ | exact Cl.bat _ | exact Cl.recsV _ | exact Cl.strsV _ | exact Cl.intsV _ | exact Cl.req _ | exact Cl.rsp _ | exact Cl.reqA _ | exact Cl.rspA _ | exact Cl.batsV _ | exact Cl.prsV _ | exact Cl.atsV _ | exact Cl.entA _ _ | exact Cl.ent _ | exact Cl.rr _ _ | exact Cl.foundA _ | exact Cl.getB _ | exact Cl.encA _ | exact Cl.firstA _ | refine ClL.cons ?_ ?_ | refine Cl.tup ?_ | refine Cl.agg ?_ | exact ClO.RO _ _))) (by (repeat' (first | with_reducible assumption | exact ClL.nil | exact Cl.int _ _ | exact Cl.bool _ | exact Cl.bl _ | exact Cl.bs _ | exact Cl.str _ | exact Cl.nils | exact Cl.nilp | exact Cl.rec _ | exact Cl.bat _ | exact Cl.recsV _ | exact Cl.strsV _ | exact Cl.intsV _ | exact Cl.req _ | exact Cl.rsp _ | exact Cl.reqA _ | exact Cl.rspA _ | exact Cl.batsV _ | exact Cl.prsV _ | exact Cl.atsV _ | exact Cl.entA _ _ | exact Cl.ent _ | exact Cl.rr _ _ | exact Cl.foundA _ | exact Cl.getB _ | exact Cl.encA _ | exact Cl.firstA _ | refine ClL.cons ?_ ?_ | refine Cl.tup ?_ | refine Cl.agg ?_ | exact ClO.RO _ _))) ?_
                (conv => arg 4; whnf); repeat (refine ⟨rfl, ?_⟩; conv => arg 4; whnf)
                refine ⟨.str s2, ⟨by decide, rfl⟩, ?_⟩
                (conv => arg 4; whnf); repeat (refine ⟨rfl, ?_⟩; conv => arg 4; whnf)
                refine ⟨.str s3, ⟨by decide, rfl⟩, ?_⟩
                (conv => arg 4; whnf); repeat (refine ⟨rfl, ?_⟩; conv => arg 4; whnf)
                have hgk := rdN_gK r3
                refine ⟨fun hb => ?_, fun hb => ?_⟩
                · have hn3 : rdN r3 = none := by rw [hgk, if_neg]; rintro ⟨q1, q2⟩; have a1 : (gK r3 == 0) = false := (by simpa using (by omega : gK r3 ≠ 0)); rw [a1] at hb; simp [u8s_length] at hb; exact hb q2
                  have hn : rdO false 0 s2 r2 = none := by unfold rdO; rw [h3]; dsimp only; rw [hn3]
                  rw [hn]
                  (conv => arg 4; whnf); repeat (refine ⟨rfl, ?_⟩; conv => arg 4; whnf)
                  exact ⟨by decide, Le.refl _ _, ⟨⟨_, rfl, LeO.refl _ _⟩, trivial⟩, (Cl.int _ _) _, ⟨⟨by decide, ClO.rc _ _ _⟩, trivial⟩⟩
                have hn3 : rdN r3 = some (gN r3) := by rw [hgk, if_pos]; simp [u8s_length] at hb; have := gK_pos r3; exact ⟨by omega, by omega⟩
                have hn : rdO false 0 s2 r2 = if mayE ⟨s2, s3, gN r3, 0⟩ then some (if false then .put ⟨s2, s3, gN r3, 0⟩ else .drop ⟨s2, s3, gN r3, 0⟩) else none := by unfold rdO; rw [h3]; dsimp only; rw [hn3]
                rw [hn]
                (conv => arg 4; whnf); repeat (refine ⟨rfl, ?_⟩; conv => arg 4; whnf)
                refine holds_args (args' := [(⟨s2, s3, gN r3, 0⟩ : Ent).av]) ⟨Le.refl _ _, trivial⟩ ?_
                refine call0 (refPlace (e := ⟨s2, s3, gN r3, 0⟩) (by show s2.length ≤ 1000000; omega) (by show s3.length ≤ 1000000; omega)) (ClL.cons (Cl.ent _) ClL.nil) (Cl.bool _) ?_
                (conv => arg 4; whnf); repeat (refine ⟨rfl, ?_⟩; conv => arg 4; whnf)
                have hmay : mayE ⟨s2, s3, gN r3, 0⟩ = !(bif bif !place ⟨s2, s3, gN r3, 0⟩ then true else decide ((0 : Int) < 0) then true else decide ((0 : Int) > 4611686018427387904)) := by
                  unfold mayE
                  rw [Bool.eq_iff_iff]
                  cases place ⟨s2, s3, gN r3, 0⟩ <;> simp
                refine ⟨fun hb => ?_, fun hb => ?_⟩
                · have hm : mayE ⟨s2, s3, gN r3, 0⟩ = false := by rw [hmay, hb]; rfl
                  rw [if_neg (by rw [hm]; decide)]
                  (conv => arg 4; whnf); repeat (refine ⟨rfl, ?_⟩; conv => arg 4; whnf)
                  exact ⟨by decide, Le.refl _ _, ⟨⟨_, rfl, LeO.refl _ _⟩, trivial⟩, (Cl.int _ _) _, ⟨⟨by decide, ClO.rc _ _ _⟩, trivial⟩⟩
                have hm : mayE ⟨s2, s3, gN r3, 0⟩ = true := by rw [hmay, hb]; rfl
                rw [if_pos hm]
                (conv => arg 4; whnf); repeat (refine ⟨rfl, ?_⟩; conv => arg 4; whnf)
                refine ⟨fun _ => ?_, fun h' => absurd h' (by simp [hh])⟩
                (conv => arg 4; whnf); repeat (refine ⟨rfl, ?_⟩; conv => arg 4; whnf)
                refine holds_args (args' := [.ptr 0 0, (⟨s2, s3, gN r3, 0⟩ : Ent).av]) ⟨Le.refl _ _, Le.refl _ _, trivial⟩ ?_
                refine call1 0 (refDrop18 (l := l) (f := f) (e := ⟨s2, s3, gN r3, 0⟩) (by omega)) rfl rfl (ClO.rc _ _) (ClO.rc _ _) rfl (Cl.tup ClL.nil) ?_
                (conv => arg 4; whnf); repeat (refine ⟨rfl, ?_⟩; conv => arg 4; whnf)
                exact ⟨by decide, Le.refl _ _, ⟨⟨_, rfl, LeO.refl _ _⟩, trivial⟩, (Cl.int _ _) _, ⟨⟨by decide, ClO.rc _ _ _⟩, trivial⟩⟩
          · have ho : s1 ≠ [111] := by simpa using ho
            have hn : parse2 false 0 s1 r1 = none := by unfold parse2; cases rdT r1 with | none => rfl | some x => obtain ⟨s2, r2⟩ := x; simp only [if_neg ho, if_neg hs]
            rw [hn]
            (conv => arg 4; whnf); repeat (refine ⟨rfl, ?_⟩; conv => arg 4; whnf)
            exact ⟨by decide, Le.refl _ _, ⟨⟨_, rfl, LeO.refl _ _⟩, trivial⟩, (Cl.int _ _) _, ⟨⟨by decide, ClO.rc _ _ _⟩, trivial⟩⟩
  · have hh : r.hv = true := by simpa using hh
    have ev : rdV r = none ∨ rdV r = some (gN r.val) := by
      unfold rdV
      rw [hh, if_pos rfl, rdN_gK]
      split
      · exact .inr rfl
      · exact .inl rfl
    (conv => arg 4; whnf); repeat (refine ⟨rfl, ?_⟩; conv => arg 4; whnf)
    cases ht : rdT r.key with
    | none =>
      have ct := refTexts16 (p := r.key) (n := 1) (by omega) (by omega)
      rw [tx1_no ht] at ct
      refine call0 ct (by (repeat' (first | with_reducible assumption | exact ClL.nil | exact Cl.int _ _ | exact Cl.bool _ | exact Cl.bl _ | exact Cl.bs _ | exact Cl.str _ | exact Cl.nils | exact Cl.nilp | exact Cl.rec _ | exact Cl.bat _ | exact Cl.recsV _ | exact Cl.strsV _ | exact Cl.intsV _ | exact Cl.req _ | exact Cl.rsp _ | exact Cl.reqA _ | exact Cl.rspA _ | exact Cl.batsV _ | exact Cl.prsV _ | exact Cl.atsV _ | exact Cl.entA _ _ | exact Cl.ent _ | exact Cl.rr _ _ | exact Cl.foundA _ | exact Cl.getB _ | exact Cl.encA _ | exact Cl.firstA _ | refine ClL.cons ?_ ?_ | refine Cl.tup ?_ | refine Cl.agg ?_ | exact ClO.RO _ _))) (Cl.txA none) ?_
      have hp : parse r = none := parse_none (.inr (.inr ht))
      (conv => arg 4; whnf); repeat (refine ⟨rfl, ?_⟩; conv => arg 4; whnf)
      refine ⟨fun _ => ?_, fun h' => absurd (show notB r false = false from h') (by simp)⟩
      rw [hp]
      (conv => arg 4; whnf); repeat (refine ⟨rfl, ?_⟩; conv => arg 4; whnf)
      exact ⟨by decide, Le.refl _ _, ⟨⟨_, rfl, LeO.refl _ _⟩, trivial⟩, (Cl.int _ _) _, ⟨⟨by decide, ClO.rc _ _ _⟩, trivial⟩⟩
    | some sr =>
      obtain ⟨s1, r1⟩ := sr
      have l1 := (bytesA_yes ht).2.1
      have ct := refTexts16 (p := r.key) (n := 1) (by omega) (by omega)
      rw [tx1_yes ht] at ct
      refine call0 ct (by (repeat' (first | with_reducible assumption | exact ClL.nil | exact Cl.int _ _ | exact Cl.bool _ | exact Cl.bl _ | exact Cl.bs _ | exact Cl.str _ | exact Cl.nils | exact Cl.nilp | exact Cl.rec _ | exact Cl.bat _ | exact Cl.recsV _ | exact Cl.strsV _ | exact Cl.intsV _ | exact Cl.req _ | exact Cl.rsp _ | exact Cl.reqA _ | exact Cl.rspA _ | exact Cl.batsV _ | exact Cl.prsV _ | exact Cl.atsV _ | exact Cl.entA _ _ | exact Cl.ent _ | exact Cl.rr _ _ | exact Cl.foundA _ | exact Cl.getB _ | exact Cl.encA _ | exact Cl.firstA _ | refine ClL.cons ?_ ?_ | refine Cl.tup ?_ | refine Cl.agg ?_ | exact ClO.RO _ _))) (Cl.txA (some ([s1], r1))) ?_
      (conv => arg 4; whnf); repeat (refine ⟨rfl, ?_⟩; conv => arg 4; whnf)
      refine ⟨fun h' => ?_, fun h' => ?_⟩
      · rw [not_yes h']
        (conv => arg 4; whnf); repeat (refine ⟨rfl, ?_⟩; conv => arg 4; whnf)
        exact ⟨by decide, Le.refl _ _, ⟨⟨_, rfl, LeO.refl _ _⟩, trivial⟩, (Cl.int _ _) _, ⟨⟨by decide, ClO.rc _ _ _⟩, trivial⟩⟩
      · obtain ⟨k1, -⟩ := not_no h'
        have hp := parse_some (by have := (not_no h').2; rw [hh] at this; exact this) k1 ht
        simp only [hh, if_true] at hp
        rw [hp]
        (conv => arg 4; whnf); repeat (refine ⟨rfl, ?_⟩; conv => arg 4; whnf)
        refine ⟨.str s1, ⟨by decide, rfl⟩, ?_⟩
        (conv => arg 4; whnf); repeat (refine ⟨rfl, ?_⟩; conv => arg 4; whnf)
        refine ⟨fun hs => ?_, fun hs => ?_⟩
        · have hs : s1 = [103] := by simpa using hs
          (conv => arg 4; whnf); repeat (refine ⟨rfl, ?_⟩; conv => arg 4; whnf)
          cases hg : rdT r1 with
          | none =>
            have cg := refTexts16 (p := r1) (n := 1) (by omega) (by omega)
            rw [tx1_no hg] at cg
            have hn : parse2 true (gN r.val) s1 r1 = none := by unfold parse2; rw [hg]
            rw [hn]
            refine call0 cg (by (repeat' (first | with_reducible assumption | exact ClL.nil | exact Cl.int _ _ | exact Cl.bool _ | exact Cl.bl _ | exact Cl.bs _ | exact Cl.str _ | exact Cl.nils | exact Cl.nilp | exact Cl.rec _ | exact Cl.bat _ | exact Cl.recsV _ | exact Cl.strsV _ | exact Cl.intsV _ | exact Cl.req _ | exact Cl.rsp _ | exact Cl.reqA _ | exact Cl.rspA _ | exact Cl.batsV _ | exact Cl.prsV _ | exact Cl.atsV _ | exact Cl.entA _ _ | exact Cl.ent _ | exact Cl.rr _ _ | exact Cl.foundA _ | exact Cl.getB _ | exact Cl.encA _ | exact Cl.firstA _ | refine ClL.cons ?_ ?_ | refine Cl.tup ?_ | refine Cl.agg ?_ | exact ClO.RO _ _))) (Cl.txA none) ?_
            (conv => arg 4; whnf); repeat (refine ⟨rfl, ?_⟩; conv => arg 4; whnf)
            refine ⟨.str [], fun h' => absurd h' (by simp), ?_⟩
            (conv => arg 4; whnf); repeat (refine ⟨rfl, ?_⟩; conv => arg 4; whnf)
            refine ⟨fun _ => ?_, fun h => absurd h (by first | (simp; done) | (simp [u8s]; done))⟩
            conv => arg 4; whnf
            exact ⟨by decide, Le.refl _ _, ⟨⟨_, rfl, LeO.refl _ _⟩, trivial⟩, (Cl.int _ _) _, ⟨⟨by decide, ClO.rc _ _ _⟩, trivial⟩⟩
          | some sr2 =>
            obtain ⟨s2, r2⟩ := sr2
            have l2 := (bytesA_yes hg).2
            have hn : parse2 true (gN r.val) s1 r1 = rdG true (gN r.val) s2 r2 := by unfold parse2; rw [hg]; simp only [hs]; rfl
            rw [hn]
            have cg := refTexts16 (p := r1) (n := 1) (by omega) (by omega)
            rw [tx1_yes hg] at cg
            refine call0 cg (by (repeat' (first | with_reducible assumption | exact ClL.nil | exact Cl.int _ _ | exact Cl.bool _ | exact Cl.bl _ | exact Cl.bs _ | exact Cl.str _ | exact Cl.nils | exact Cl.nilp | exact Cl.rec _ | exact Cl.bat _ | exact Cl.recsV _ | exact Cl.strsV _ | exact Cl.intsV _ | exact Cl.req _ | exact Cl.rsp _ | exact Cl.reqA _ | exact Cl.rspA _ | exact Cl.batsV _ | exact Cl.prsV _ | exact Cl.atsV _ | exact Cl.entA _ _ | exact Cl.ent _ | exact Cl.rr _ _ | exact Cl.foundA _ | exact Cl.getB _ | exact Cl.encA _ | exact Cl.firstA _ | refine ClL.cons ?_ ?_ | refine Cl.tup ?_ | refine Cl.agg ?_ | exact ClO.RO _ _))) (Cl.txA (some ([s2], r2))) ?_
            (conv => arg 4; whnf); repeat (refine ⟨rfl, ?_⟩; conv => arg 4; whnf)
            refine ⟨.str s2, ctxP_of ⟨by decide, rfl⟩, ?_⟩
            (conv => arg 4; whnf); repeat (refine ⟨rfl, ?_⟩; conv => arg 4; whnf)
            refine ⟨fun h2 => ?_, fun h2 => ?_⟩
            · have hn : rdG true (gN r.val) s2 r2 = none := by unfold rdG; rw [if_neg]; rintro ⟨rfl, -⟩; simp [u8s] at h2
              rw [hn]
              (conv => arg 4; whnf); repeat (refine ⟨rfl, ?_⟩; conv => arg 4; whnf)
              exact ⟨by decide, Le.refl _ _, ⟨⟨_, rfl, LeO.refl _ _⟩, trivial⟩, (Cl.int _ _) _, ⟨⟨by decide, ClO.rc _ _ _⟩, trivial⟩⟩
            · have h2 : r2 = [] := by cases r2 with | nil => rfl | cons x y => simp [u8s] at h2
              subst h2
              (conv => arg 4; whnf); repeat (refine ⟨rfl, ?_⟩; conv => arg 4; whnf)
              refine call0 (refTopic (s := s2) (by omega)) (by (repeat' (first | with_reducible assumption | exact ClL.nil | exact Cl.int _ _ | exact Cl.bool _ | exact Cl.bl _ | exact Cl.bs _ | exact Cl.str _ | exact Cl.nils | exact Cl.nilp | exact Cl.rec _ | exact Cl.bat _ | exact Cl.recsV _ | exact Cl.strsV _ | exact Cl.intsV _ | exact Cl.req _ | exact Cl.rsp _ | exact Cl.reqA _ | exact Cl.rspA _ | exact Cl.batsV _ | exact Cl.prsV _ | exact Cl.atsV _ | exact Cl.entA _ _ | exact Cl.ent _ | exact Cl.rr _ _ | exact Cl.foundA _ | exact Cl.getB _ | exact Cl.encA _ | exact Cl.firstA _ | refine ClL.cons ?_ ?_ | refine Cl.tup ?_ | refine Cl.agg ?_ | exact ClO.RO _ _))) (by (repeat' (first | with_reducible assumption | exact ClL.nil | exact Cl.int _ _ | exact Cl.bool _ | exact Cl.bl _ | exact Cl.bs _ | exact Cl.str _ | exact Cl.nils | exact Cl.nilp | exact Cl.rec _ | exact Cl.bat _ | exact Cl.recsV _ | exact Cl.strsV _ | exact Cl.intsV _ | exact Cl.req _ | exact Cl.rsp _ | exact Cl.reqA _ | exact Cl.rspA _ | exact Cl.batsV _ | exact Cl.prsV _ | exact Cl.atsV _ | exact Cl.entA _ _ | exact Cl.ent _ | exact Cl.rr _ _ | exact Cl.foundA _ | exact Cl.getB _ | exact Cl.encA _ | exact Cl.firstA _ | refine ClL.cons ?_ ?_ | refine Cl.tup ?_ | refine Cl.agg ?_ | exact ClO.RO _ _))) ?_
              (conv => arg 4; whnf); repeat (refine ⟨rfl, ?_⟩; conv => arg 4; whnf)
              have hmay : mayG s2 (gN r.val) = !(bif bif !nm s2 then true else decide (((gN r.val) : Int) < 0) then true else decide (((gN r.val) : Int) > 1099511627776)) := by
                unfold mayG
                rw [Bool.eq_iff_iff]
                cases nm s2 <;> simp
              refine ⟨fun hb => ?_, fun hb => ?_⟩
              · have hm : mayG s2 (gN r.val) = false := by rw [hmay, hb]; rfl
                have hn : rdG true (gN r.val) s2 [] = none := by unfold rdG; rw [if_neg]; rintro ⟨-, h⟩; rw [hm] at h; cases h
                rw [hn]
                (conv => arg 4; whnf); repeat (refine ⟨rfl, ?_⟩; conv => arg 4; whnf)
                exact ⟨by decide, Le.refl _ _, ⟨⟨_, rfl, LeO.refl _ _⟩, trivial⟩, (Cl.int _ _) _, ⟨⟨by decide, ClO.rc _ _ _⟩, trivial⟩⟩
              · have hm : mayG s2 (gN r.val) = true := by rw [hmay, hb]; rfl
                have hn : rdG true (gN r.val) s2 [] = some (.gen s2 (gN r.val)) := by unfold rdG; rw [if_pos ⟨rfl, hm⟩]; rfl
                rw [hn]
                (conv => arg 4; whnf); repeat (refine ⟨rfl, ?_⟩; conv => arg 4; whnf)
                refine ⟨fun h' => absurd h' (by simp [hh]), fun _ => ?_⟩
                (conv => arg 4; whnf); repeat (refine ⟨rfl, ?_⟩; conv => arg 4; whnf)
                refine ⟨.str s2, ⟨by decide, rfl⟩, ?_⟩
                (conv => arg 4; whnf); repeat (refine ⟨rfl, ?_⟩; conv => arg 4; whnf)
                refine call1 0 (refGenOk (l := l) (f := f) (g := s2) (n := (gN r.val)) (by omega) hm) rfl rfl (ClO.rc _ _) (ClO.rc _ _) rfl (Cl.int _ _) ?_
                (conv => arg 4; whnf); repeat (refine ⟨rfl, ?_⟩; conv => arg 4; whnf)
                exact ⟨by decide, Le.refl _ _, ⟨⟨_, rfl, LeO.refl _ _⟩, trivial⟩, (Cl.int _ _) _, ⟨⟨by decide, ClO.rc _ _ _⟩, trivial⟩⟩
        · have hs : s1 ≠ [103] := by simpa using hs
          (conv => arg 4; whnf); repeat (refine ⟨rfl, ?_⟩; conv => arg 4; whnf)
          refine ⟨fun ho => ?_, fun ho => ?_⟩
          · have ho : s1 = [111] := by simpa using ho
            (conv => arg 4; whnf); repeat (refine ⟨rfl, ?_⟩; conv => arg 4; whnf)
            cases hg : rdT r1 with
            | none =>
              have cg := refTexts16 (p := r1) (n := 2) (by omega) (by omega)
              rw [tx2_no hg] at cg
              have hn : parse2 true (gN r.val) s1 r1 = none := by unfold parse2; rw [hg]
              rw [hn]
              refine call0 cg (by (repeat' (first | with_reducible assumption | exact ClL.nil | exact Cl.int _ _ | exact Cl.bool _ | exact Cl.bl _ | exact Cl.bs _ | exact Cl.str _ | exact Cl.nils | exact Cl.nilp | exact Cl.rec _ | exact Cl.bat _ | exact Cl.recsV _ | exact Cl.strsV _ | exact Cl.intsV _ | exact Cl.req _ | exact Cl.rsp _ | exact Cl.reqA _ | exact Cl.rspA _ | exact Cl.batsV _ | exact Cl.prsV _ | exact Cl.atsV _ | exact Cl.entA _ _ | exact Cl.ent _ | exact Cl.rr _ _ | exact Cl.foundA _ | exact Cl.getB _ | exact Cl.encA _ | exact Cl.firstA _ | refine ClL.cons ?_ ?_ | refine Cl.tup ?_ | refine Cl.agg ?_ | exact ClO.RO _ _))) (Cl.txA none) ?_
              (conv => arg 4; whnf); repeat (refine ⟨rfl, ?_⟩; conv => arg 4; whnf)
              refine ⟨fun _ => ?_, fun h => absurd h (by first | (simp; done) | (simp [u8s]; done))⟩
              conv => arg 4; whnf
              exact ⟨by decide, Le.refl _ _, ⟨⟨_, rfl, LeO.refl _ _⟩, trivial⟩, (Cl.int _ _) _, ⟨⟨by decide, ClO.rc _ _ _⟩, trivial⟩⟩
            | some sr2 =>
              obtain ⟨s2, r2⟩ := sr2
              have l2 := (bytesA_yes hg).2
              have hn : parse2 true (gN r.val) s1 r1 = rdO true (gN r.val) s2 r2 := by unfold parse2; rw [hg]; simp only [ho]; rfl
              rw [hn]
              cases h3 : rdT r2 with
              | none =>
                have cg := refTexts16 (p := r1) (n := 2) (by omega) (by omega)
                rw [tx2_no2 hg h3] at cg
                have hn : rdO true (gN r.val) s2 r2 = none := by unfold rdO; rw [h3]
                rw [hn]
                refine call0 cg (by (repeat' (first | with_reducible assumption | exact ClL.nil | exact Cl.int _ _ | exact Cl.bool _ | exact Cl.bl _ | exact Cl.bs _ | exact Cl.str _ | exact Cl.nils | exact Cl.nilp | exact Cl.rec _ | exact Cl.bat _ | exact Cl.recsV _ | exact Cl.strsV _ | exact Cl.intsV _ | exact Cl.req _ | exact Cl.rsp _ | exact Cl.reqA _ | exact Cl.rspA _ | exact Cl.batsV _ | exact Cl.prsV _ | exact Cl.atsV _ | exact Cl.entA _ _ | exact Cl.ent _ | exact Cl.rr _ _ | exact Cl.foundA _ | exact Cl.getB _ | exact Cl.encA _ | exact Cl.firstA _ | refine ClL.cons ?_ ?_ | refine Cl.tup ?_ | refine Cl.agg ?_ | exact ClO.RO _ _))) (Cl.txA none) ?_
                (conv => arg 4; whnf); repeat (refine ⟨rfl, ?_⟩; conv => arg 4; whnf)
                refine ⟨fun _ => ?_, fun h => absurd h (by first | (simp; done) | (simp [u8s]; done))⟩
                conv => arg 4; whnf
                exact ⟨by decide, Le.refl _ _, ⟨⟨_, rfl, LeO.refl _ _⟩, trivial⟩, (Cl.int _ _) _, ⟨⟨by decide, ClO.rc _ _ _⟩, trivial⟩⟩
              | some sr3 =>
                obtain ⟨s3, r3⟩ := sr3
                have l3 := (bytesA_yes h3).2
                have cg := refTexts16 (p := r1) (n := 2) (by omega) (by omega)
                rw [tx2_yes hg h3] at cg
                refine call0 cg (by (repeat' (first | with_reducible assumption | exact ClL.nil | exact Cl.int _ _ | exact Cl.bool _ | exact Cl.bl _ | exact Cl.bs _ | exact Cl.str _ | exact Cl.nils | exact Cl.nilp | exact Cl.rec _ | exact Cl.bat _ | exact Cl.recsV _ | exact Cl.strsV _ | exact Cl.intsV _ | exact Cl.req _ | exact Cl.rsp _ | exact Cl.reqA _ | exact Cl.rspA _ | exact Cl.batsV _ | exact Cl.prsV _ | exact Cl.atsV _ | exact Cl.entA _ _ | exact Cl.ent _ | exact Cl.rr _ _ | exact Cl.foundA _ | exact Cl.getB _ | exact Cl.encA _ | exact Cl.firstA _ | refine ClL.cons ?_ ?_ | refine Cl.tup ?_ | refine Cl.agg ?_ | exact ClO.RO _ _))) (Cl.txA (some ([s2, s3], r3))) ?_
                (conv => arg 4; whnf); repeat (refine ⟨rfl, ?_⟩; conv => arg 4; whnf)
                refine ⟨fun h => absurd h (by first | (simp; done) | (simp [u8s]; done)), fun _ => ?_⟩
                conv => arg 4; whnf
                have c3 := refGet (b := r3) (by omega)
                rw [getB_gN] at c3
                refine call0 c3 (by (repeat' (first | with_reducible assumption | exact ClL.nil | exact Cl.int _ _ | exact Cl.bool _ | exact Cl.bl _ | exact Cl.bs _ | exact Cl.str _ | exact Cl.nils | exact Cl.nilp | exact Cl.rec _ | exact Cl.bat _ | exact Cl.recsV _ | exact Cl.strsV _ | exact Cl.intsV _ | exact Cl.req _ | exact Cl.rsp _ | exact Cl.reqA _ | exact Cl.rspA _ | exact Cl.batsV _ | exact Cl.prsV _ | exact Cl.atsV _ | exact Cl.entA _ _ | exact Cl.ent _ | exact Cl.rr _ _ | exact Cl.foundA _ | exact Cl.getB _ | exact Cl.encA _ | exact Cl.firstA _ | refine ClL.cons ?_ ?_ | refine Cl.tup ?_ | refine Cl.agg ?_ | exact ClO.RO _ _))) (by (repeat' (first | with_reducible assumption | exact ClL.nil | exact Cl.int _ _ | exact Cl.bool _ | exact Cl.bl _ | exact Cl.bs _ | exact Cl.str _ | exact Cl.nils | exact Cl.nilp | exact Cl.rec _ | exact Cl.bat _ | exact Cl.recsV _ | exact Cl.strsV _ | exact Cl.intsV _ | exact Cl.req _ | exact Cl.rsp _ | exact Cl.reqA _ | exact Cl.rspA _ | exact Cl.batsV _ | exact Cl.prsV _ | exact Cl.atsV _ | exact Cl.entA _ _ | exact Cl.ent _ | exact Cl.rr _ _ | exact Cl.foundA _ | exact Cl.getB _ | exact Cl.encA _ | exact Cl.firstA _ | refine ClL.cons ?_ ?_ | refine Cl.tup ?_ | refine Cl.agg ?_ | exact ClO.RO _ _))) ?_
                (conv => arg 4; whnf); repeat (refine ⟨rfl, ?_⟩; conv => arg 4; whnf)
                refine ⟨.str s2, ⟨by decide, rfl⟩, ?_⟩
                (conv => arg 4; whnf); repeat (refine ⟨rfl, ?_⟩; conv => arg 4; whnf)
                refine ⟨.str s3, ⟨by decide, rfl⟩, ?_⟩
                (conv => arg 4; whnf); repeat (refine ⟨rfl, ?_⟩; conv => arg 4; whnf)
                have hgk := rdN_gK r3
                refine ⟨fun hb => ?_, fun hb => ?_⟩
                · have hn3 : rdN r3 = none := by rw [hgk, if_neg]; rintro ⟨q1, q2⟩; have a1 : (gK r3 == 0) = false := (by simpa using (by omega : gK r3 ≠ 0)); rw [a1] at hb; simp [u8s_length] at hb; exact hb q2
                  have hn : rdO true (gN r.val) s2 r2 = none := by unfold rdO; rw [h3]; dsimp only; rw [hn3]
                  rw [hn]
                  (conv => arg 4; whnf); repeat (refine ⟨rfl, ?_⟩; conv => arg 4; whnf)
                  exact ⟨by decide, Le.refl _ _, ⟨⟨_, rfl, LeO.refl _ _⟩, trivial⟩, (Cl.int _ _) _, ⟨⟨by decide, ClO.rc _ _ _⟩, trivial⟩⟩
                have hn3 : rdN r3 = some (gN r3) := by rw [hgk, if_pos]; simp [u8s_length] at hb; have := gK_pos r3; exact ⟨by omega, by omega⟩
                have hn : rdO true (gN r.val) s2 r2 = if mayE ⟨s2, s3, gN r3, (gN r.val)⟩ then some (if true then .put ⟨s2, s3, gN r3, (gN r.val)⟩ else .drop ⟨s2, s3, gN r3, (gN r.val)⟩) else none := by unfold rdO; rw [h3]; dsimp only; rw [hn3]
                rw [hn]
                (conv => arg 4; whnf); repeat (refine ⟨rfl, ?_⟩; conv => arg 4; whnf)
                refine holds_args (args' := [(⟨s2, s3, gN r3, (gN r.val)⟩ : Ent).av]) ⟨Le.refl _ _, trivial⟩ ?_
                refine call0 (refPlace (e := ⟨s2, s3, gN r3, (gN r.val)⟩) (by show s2.length ≤ 1000000; omega) (by show s3.length ≤ 1000000; omega)) (ClL.cons (Cl.ent _) ClL.nil) (Cl.bool _) ?_
                (conv => arg 4; whnf); repeat (refine ⟨rfl, ?_⟩; conv => arg 4; whnf)
                have hmay : mayE ⟨s2, s3, gN r3, (gN r.val)⟩ = !(bif bif !place ⟨s2, s3, gN r3, (gN r.val)⟩ then true else decide (((gN r.val) : Int) < 0) then true else decide (((gN r.val) : Int) > 4611686018427387904)) := by
                  unfold mayE
                  rw [Bool.eq_iff_iff]
                  cases place ⟨s2, s3, gN r3, (gN r.val)⟩ <;> simp
                refine ⟨fun hb => ?_, fun hb => ?_⟩
                · have hm : mayE ⟨s2, s3, gN r3, (gN r.val)⟩ = false := by rw [hmay, hb]; rfl
                  rw [if_neg (by rw [hm]; decide)]
                  (conv => arg 4; whnf); repeat (refine ⟨rfl, ?_⟩; conv => arg 4; whnf)
                  exact ⟨by decide, Le.refl _ _, ⟨⟨_, rfl, LeO.refl _ _⟩, trivial⟩, (Cl.int _ _) _, ⟨⟨by decide, ClO.rc _ _ _⟩, trivial⟩⟩
                have hm : mayE ⟨s2, s3, gN r3, (gN r.val)⟩ = true := by rw [hmay, hb]; rfl
                rw [if_pos hm]
                (conv => arg 4; whnf); repeat (refine ⟨rfl, ?_⟩; conv => arg 4; whnf)
                refine ⟨fun h' => absurd h' (by simp [hh]), fun _ => ?_⟩
                (conv => arg 4; whnf); repeat (refine ⟨rfl, ?_⟩; conv => arg 4; whnf)
                refine holds_args (args' := [.ptr 0 0, (⟨s2, s3, gN r3, (gN r.val)⟩ : Ent).av]) ⟨Le.refl _ _, Le.refl _ _, trivial⟩ ?_
                refine call1 0 (refPutOk (l := l) (f := f) (e := ⟨s2, s3, gN r3, (gN r.val)⟩) (by omega) hm) rfl rfl (ClO.rc _ _) (ClO.rc _ _) rfl (Cl.int _ _) ?_
                (conv => arg 4; whnf); repeat (refine ⟨rfl, ?_⟩; conv => arg 4; whnf)
                exact ⟨by decide, Le.refl _ _, ⟨⟨_, rfl, LeO.refl _ _⟩, trivial⟩, (Cl.int _ _) _, ⟨⟨by decide, ClO.rc _ _ _⟩, trivial⟩⟩
          · have ho : s1 ≠ [111] := by simpa using ho
            have hn : parse2 true (gN r.val) s1 r1 = none := by unfold parse2; cases rdT r1 with | none => rfl | some x => obtain ⟨s2, r2⟩ := x; simp only [if_neg ho, if_neg hs]
            rw [hn]
            (conv => arg 4; whnf); repeat (refine ⟨rfl, ?_⟩; conv => arg 4; whnf)
            exact ⟨by decide, Le.refl _ _, ⟨⟨_, rfl, LeO.refl _ _⟩, trivial⟩, (Cl.int _ _) _, ⟨⟨by decide, ClO.rc _ _ _⟩, trivial⟩⟩
end Go.Proofs.Ytlifbhcmihnkpaa.Cm
