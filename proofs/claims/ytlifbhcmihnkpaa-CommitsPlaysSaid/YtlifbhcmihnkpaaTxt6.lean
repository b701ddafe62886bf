/-
  Any record applied, by the program.
-/
import Derived.Test.YtlifbhcmihnkpaaTxt4
import Derived.Test.YtlifbhcmihnkpaaTxt5
import Derived.Test.YtlifbhcmihnkpaaTxt2
set_option linter.unusedVariables false
set_option linter.unusedSimpArgs false
namespace Go.Proofs.Ytlifbhcmihnkpaa.Cm
set_option maxRecDepth 100000
set_option maxHeartbeats 80000000
open Go.Sym

theorem cmValG {r : Rec} (hl : r.val.length ≤ 100000) : ∃ n ok, CallOK Try.prog 98 [r.av] [] 0 (Out (.tup [.int .i64 n, .bool ok]) [] 0) ∧ (ok = true → rdV r = some n) ∧ (ok = false → rdV r = none) := by
  cases h : r.hv with
  | false => exact ⟨0, true, cmValNo h, fun _ => by unfold rdV; rw [h]; rfl, fun h' => by cases h'⟩
  | true =>
    obtain ⟨n, l, e, hn⟩ : ∃ n l e, numR r.val 0 = (n, l, e) := ⟨_, _, _, rfl⟩
    have c1 := rNum (b := r.val) (e := 0) (by omega)
    rw [hn] at c1
    dsimp only at c1
    refine ⟨n, decide (e = 0 ∧ l = []), ?_, fun h' => ?_, fun h' => ?_⟩
    · refine CallOK.fit (by decide) ?_
      refine callOK Try.call98 Try.func98 Try.ntmps98 rfl ?_
      conv => arg 4; whnf
      refine ⟨fun h' => absurd h' (by rw [h]; decide), fun _ => ?_⟩
      (conv => arg 4; whnf); repeat (refine ⟨rfl, ?_⟩; conv => arg 4; whnf)
      refine callNew (newReader (b := r.val) (by omega)) (ClL.cons (Cl.bs _) ClL.nil) (ClO.RO _ _) ?_
      (conv => arg 4; whnf); repeat (refine ⟨rfl, ?_⟩; conv => arg 4; whnf)
      refine call1 1 c1 rfl rfl (ClO.RO _ _) (ClO.RO _ _) rfl (Cl.int _ _) ?_
      (conv => arg 4; whnf); repeat (refine ⟨rfl, ?_⟩; conv => arg 4; whnf)
      refine call1 1 rErr rfl rfl (ClO.RO _ _) (ClO.RO _ _) rfl (Cl.int _ _) ?_
      (conv => arg 4; whnf); repeat (refine ⟨rfl, ?_⟩; conv => arg 4; whnf)
      refine ⟨fun h0 => ?_, fun h0 => ?_⟩
      · have h0 : e = 0 := by simpa using h0
        (conv => arg 4; whnf); repeat (refine ⟨rfl, ?_⟩; conv => arg 4; whnf)
        refine call1 1 rLeft rfl rfl (ClO.RO _ _) (ClO.RO _ _) rfl (Cl.int _ _) ?_
        (conv => arg 4; whnf); repeat (refine ⟨rfl, ?_⟩; conv => arg 4; whnf)
        refine ⟨by decide, Le.of_eq ?_, trivial, (by (repeat' (first | with_reducible assumption | exact ClL.nil | exact Cl.int _ _ | exact Cl.bool _ | exact Cl.bl _ | exact Cl.bs _ | exact Cl.str _ | exact Cl.nils | exact Cl.nilp | exact Cl.rec _ | exact Cl.bat _ | exact Cl.recsV _ | exact Cl.strsV _ | exact Cl.intsV _ | exact Cl.req _ | exact Cl.rsp _ | exact Cl.reqA _ | exact Cl.rspA _ | exact Cl.batsV _ | exact Cl.prsV _ | exact Cl.atsV _ | exact Cl.entA _ _ | exact Cl.ent _ | exact Cl.rr _ _ | exact Cl.foundA _ | exact Cl.getB _ | exact Cl.encA _ | exact Cl.firstA _ | refine ClL.cons ?_ ?_ | refine Cl.tup ?_ | refine Cl.agg ?_ | exact ClO.RO _ _)) : Cl _) _, trivial⟩
        rw [if_pos h0]
        have : (((l.length : Int)) == 0) = decide (e = 0 ∧ l = []) := by
          rw [Bool.eq_iff_iff]
          simp [h0]
        rw [this]
      · have h0 : e ≠ 0 := by simpa using h0
        (conv => arg 4; whnf); repeat (refine ⟨rfl, ?_⟩; conv => arg 4; whnf)
        have : decide (e = 0 ∧ l = []) = false := by simp [h0]
        rw [this]
        exact ⟨by decide, by (repeat' (first | with_reducible exact Le.refl _ _ | exact Le.bl | exact Le.lb | exact Le.nils | exact Le.nilsFull | exact Le.none | exact LeL.nil _ | refine LeL.cons ?_ ?_ | refine Le.tup ?_ | refine Le.agg ?_ | exact Le.refl _ _ | exact LeL.refl _ _)), trivial, (by (repeat' (first | with_reducible assumption | exact ClL.nil | exact Cl.int _ _ | exact Cl.bool _ | exact Cl.bl _ | exact Cl.bs _ | exact Cl.str _ | exact Cl.nils | exact Cl.nilp | exact Cl.rec _ | exact Cl.bat _ | exact Cl.recsV _ | exact Cl.strsV _ | exact Cl.intsV _ | exact Cl.req _ | exact Cl.rsp _ | exact Cl.reqA _ | exact Cl.rspA _ | exact Cl.batsV _ | exact Cl.prsV _ | exact Cl.atsV _ | exact Cl.entA _ _ | exact Cl.ent _ | exact Cl.rr _ _ | exact Cl.foundA _ | exact Cl.getB _ | exact Cl.encA _ | exact Cl.firstA _ | refine ClL.cons ?_ ?_ | refine Cl.tup ?_ | refine Cl.agg ?_ | exact ClO.RO _ _)) : Cl _) _, trivial⟩
    · have h' : e = 0 ∧ l = [] := by simpa using h'
      unfold rdV
      rw [h]
      exact rdN_ok hn h'.1 h'.2
    · have h' : ¬ (e = 0 ∧ l = []) := by simpa using h'
      unfold rdV
      rw [h]
      exact rdN_no hn h'

theorem cmApply {m : List (MK × Int)} {f : List (List UInt8 × Int)} {r : Rec} (hk : r.key.length ≤ 100000) (hv : r.val.length ≤ 100000) : CallOK Try.prog 49 [.ptr 2 0, r.av] (TH m f) 3 (Out (.int .i64 (plE (parse r))) (TH (plM m (parse r)) (plF f (parse r))) 3) := by
  obtain ⟨s1, r1, e1, h1⟩ : ∃ s1 r1 e1, bytesR r.key 0 20 = (s1, r1, e1) := ⟨_, _, _, rfl⟩
  have l1 := (bytesR_suf r.key 0 20).length_le
  rw [h1] at l1
  have k1 := bytesR_len r.key 0 20
  rw [h1] at k1
  have t1 := rText (b := r.key) (e := 0) (most := 20) (by omega)
  rw [h1] at t1
  dsimp only at t1
  obtain ⟨s2, r2, e2, h2⟩ : ∃ s2 r2 e2, bytesR r1 e1 20 = (s2, r2, e2) := ⟨_, _, _, rfl⟩
  have l2 := (bytesR_suf r1 e1 20).length_le
  rw [h2] at l2
  have k2 := bytesR_len r1 e1 20
  rw [h2] at k2
  have t2 := rText (b := r1) (e := e1) (most := 20) (by dsimp only at l1; omega)
  rw [h2] at t2
  dsimp only at t2
  dsimp only at l1 l2 k1 k2
  obtain ⟨n, ok, cv, y1, y2⟩ := cmValG (r := r) hv
  refine CallOK.fit (by decide) ?_
  refine callOK Try.call49 Try.func49 Try.ntmps49 rfl ?_
  conv => arg 4; whnf
  refine callTab 0 1 2 (cmNone (m := m) (f := f)) rfl rfl rfl rfl rfl rfl rfl rfl rfl ?_
  (conv => arg 4; whnf); repeat (refine ⟨rfl, ?_⟩; conv => arg 4; whnf)
  refine callNew (newReader (b := r.key) (by omega)) (ClL.cons (Cl.bs _) ClL.nil) (ClO.RO _ _) ?_
  (conv => arg 4; whnf); repeat (refine ⟨rfl, ?_⟩; conv => arg 4; whnf)
  refine call1 4 t1 rfl rfl (ClO.RO _ _) (ClO.RO _ _) rfl (Cl.str _) ?_
  (conv => arg 4; whnf); repeat (refine ⟨rfl, ?_⟩; conv => arg 4; whnf)
  refine call1 4 t2 rfl rfl (ClO.RO _ _) (ClO.RO _ _) rfl (Cl.str _) ?_
  (conv => arg 4; whnf); repeat (refine ⟨rfl, ?_⟩; conv => arg 4; whnf)
  refine ⟨fun hs => ?_, fun hs => ?_⟩
  · have hs : s1 = [111] := by simpa using hs
    subst hs
    obtain ⟨s3, r3, e3, h3⟩ : ∃ s3 r3 e3, bytesR r2 e2 20 = (s3, r3, e3) := ⟨_, _, _, rfl⟩
    have l3 := (bytesR_suf r2 e2 20).length_le
    rw [h3] at l3
    have k3 := bytesR_len r2 e2 20
    rw [h3] at k3
    have t3 := rText (b := r2) (e := e2) (most := 20) (by omega)
    rw [h3] at t3
    dsimp only at t3
    dsimp only at l3 k3
    obtain ⟨p, r4, e4, h4⟩ : ∃ p r4 e4, numR r3 e3 = (p, r4, e4) := ⟨_, _, _, rfl⟩
    have t4 := rNum (b := r3) (e := e3) (by omega)
    rw [h4] at t4
    dsimp only at t4
    obtain ⟨z1, z2⟩ := parse_o h1 h2 h3 h4
    (conv => arg 4; whnf); repeat (refine ⟨rfl, ?_⟩; conv => arg 4; whnf)
    refine call1 4 t3 rfl rfl (ClO.RO _ _) (ClO.RO _ _) rfl (Cl.str _) ?_
    (conv => arg 4; whnf); repeat (refine ⟨rfl, ?_⟩; conv => arg 4; whnf)
    refine call1 4 t4 rfl rfl (ClO.RO _ _) (ClO.RO _ _) rfl (Cl.int _ _) ?_
    (conv => arg 4; whnf); repeat (refine ⟨rfl, ?_⟩; conv => arg 4; whnf)
    refine call0 cv (by (repeat' (first | with_reducible assumption | exact ClL.nil | exact Cl.int _ _ | exact Cl.bool _ | exact Cl.bl _ | exact Cl.bs _ | exact Cl.str _ | exact Cl.nils | exact Cl.nilp | exact Cl.rec _ | exact Cl.bat _ | exact Cl.recsV _ | exact Cl.strsV _ | exact Cl.intsV _ | exact Cl.req _ | exact Cl.rsp _ | exact Cl.reqA _ | exact Cl.rspA _ | exact Cl.batsV _ | exact Cl.prsV _ | exact Cl.atsV _ | exact Cl.entA _ _ | exact Cl.ent _ | exact Cl.rr _ _ | exact Cl.foundA _ | exact Cl.getB _ | exact Cl.encA _ | exact Cl.firstA _ | refine ClL.cons ?_ ?_ | refine Cl.tup ?_ | refine Cl.agg ?_ | exact ClO.RO _ _))) (by (repeat' (first | with_reducible assumption | exact ClL.nil | exact Cl.int _ _ | exact Cl.bool _ | exact Cl.bl _ | exact Cl.bs _ | exact Cl.str _ | exact Cl.nils | exact Cl.nilp | exact Cl.rec _ | exact Cl.bat _ | exact Cl.recsV _ | exact Cl.strsV _ | exact Cl.intsV _ | exact Cl.req _ | exact Cl.rsp _ | exact Cl.reqA _ | exact Cl.rspA _ | exact Cl.batsV _ | exact Cl.prsV _ | exact Cl.atsV _ | exact Cl.entA _ _ | exact Cl.ent _ | exact Cl.rr _ _ | exact Cl.foundA _ | exact Cl.getB _ | exact Cl.encA _ | exact Cl.firstA _ | refine ClL.cons ?_ ?_ | refine Cl.tup ?_ | refine Cl.agg ?_ | exact ClO.RO _ _))) ?_
    (conv => arg 4; whnf); repeat (refine ⟨rfl, ?_⟩; conv => arg 4; whnf)
    refine ⟨fun hb => ?_, fun hb => ?_⟩
    · have hp : parse r = none := z2 (by
        cases ok with
        | false => exact .inl (y2 rfl)
        | true => exact .inr (.inl (by simpa using hb)))
      rw [hp]
      (conv => arg 4; whnf); repeat (refine ⟨rfl, ?_⟩; conv => arg 4; whnf)
      exact ⟨by decide, Le.refl _ _, ⟨⟨_, rfl, LeO.refl _ _⟩, ⟨_, rfl, LeO.refl _ _⟩, ⟨_, rfl, LeO.refl _ _⟩, trivial⟩, (by (repeat' (first | with_reducible assumption | exact ClL.nil | exact Cl.int _ _ | exact Cl.bool _ | exact Cl.bl _ | exact Cl.bs _ | exact Cl.str _ | exact Cl.nils | exact Cl.nilp | exact Cl.rec _ | exact Cl.bat _ | exact Cl.recsV _ | exact Cl.strsV _ | exact Cl.intsV _ | exact Cl.req _ | exact Cl.rsp _ | exact Cl.reqA _ | exact Cl.rspA _ | exact Cl.batsV _ | exact Cl.prsV _ | exact Cl.atsV _ | exact Cl.entA _ _ | exact Cl.ent _ | exact Cl.rr _ _ | exact Cl.foundA _ | exact Cl.getB _ | exact Cl.encA _ | exact Cl.firstA _ | refine ClL.cons ?_ ?_ | refine Cl.tup ?_ | refine Cl.agg ?_ | exact ClO.RO _ _)) : Cl _) _, ⟨⟨by decide, rfl⟩, ⟨by decide, ClO.fE _ _⟩, ⟨by decide, ClO.mE _ _⟩, trivial⟩⟩
    obtain ⟨rfl, hkt⟩ : ok = true ∧ r.hk = true := by cases ok <;> simp at hb ⊢; exact hb
    have yv := y1 rfl
    (conv => arg 4; whnf); repeat (refine ⟨rfl, ?_⟩; conv => arg 4; whnf)
    refine call1 4 rErr rfl rfl (ClO.RO _ _) (ClO.RO _ _) rfl (Cl.int _ _) ?_
    (conv => arg 4; whnf); repeat (refine ⟨rfl, ?_⟩; conv => arg 4; whnf)
    refine ⟨fun h0 => ?_, fun h0 => ?_⟩
    · have h0 : e4 ≠ 0 := by simpa using h0
      have hp : parse r = none := z2 (.inr (.inr (.inl h0)))
      rw [hp]
      (conv => arg 4; whnf); repeat (refine ⟨rfl, ?_⟩; conv => arg 4; whnf)
      exact ⟨by decide, Le.refl _ _, ⟨⟨_, rfl, LeO.refl _ _⟩, ⟨_, rfl, LeO.refl _ _⟩, ⟨_, rfl, LeO.refl _ _⟩, trivial⟩, (by (repeat' (first | with_reducible assumption | exact ClL.nil | exact Cl.int _ _ | exact Cl.bool _ | exact Cl.bl _ | exact Cl.bs _ | exact Cl.str _ | exact Cl.nils | exact Cl.nilp | exact Cl.rec _ | exact Cl.bat _ | exact Cl.recsV _ | exact Cl.strsV _ | exact Cl.intsV _ | exact Cl.req _ | exact Cl.rsp _ | exact Cl.reqA _ | exact Cl.rspA _ | exact Cl.batsV _ | exact Cl.prsV _ | exact Cl.atsV _ | exact Cl.entA _ _ | exact Cl.ent _ | exact Cl.rr _ _ | exact Cl.foundA _ | exact Cl.getB _ | exact Cl.encA _ | exact Cl.firstA _ | refine ClL.cons ?_ ?_ | refine Cl.tup ?_ | refine Cl.agg ?_ | exact ClO.RO _ _)) : Cl _) _, ⟨⟨by decide, rfl⟩, ⟨by decide, ClO.fE _ _⟩, ⟨by decide, ClO.mE _ _⟩, trivial⟩⟩
    have h0 : e4 = 0 := by simpa using h0
    subst h0
    (conv => arg 4; whnf); repeat (refine ⟨rfl, ?_⟩; conv => arg 4; whnf)
    refine call1 4 rLeft rfl rfl (ClO.RO _ _) (ClO.RO _ _) rfl (Cl.int _ _) ?_
    (conv => arg 4; whnf); repeat (refine ⟨rfl, ?_⟩; conv => arg 4; whnf)
    refine ⟨fun h0 => ?_, fun h0 => ?_⟩
    · have hp : parse r = none := z2 (.inr (.inr (.inr (fun h => by subst h; simp at h0))))
      rw [hp]
      (conv => arg 4; whnf); repeat (refine ⟨rfl, ?_⟩; conv => arg 4; whnf)
      exact ⟨by decide, Le.refl _ _, ⟨⟨_, rfl, LeO.refl _ _⟩, ⟨_, rfl, LeO.refl _ _⟩, ⟨_, rfl, LeO.refl _ _⟩, trivial⟩, (by (repeat' (first | with_reducible assumption | exact ClL.nil | exact Cl.int _ _ | exact Cl.bool _ | exact Cl.bl _ | exact Cl.bs _ | exact Cl.str _ | exact Cl.nils | exact Cl.nilp | exact Cl.rec _ | exact Cl.bat _ | exact Cl.recsV _ | exact Cl.strsV _ | exact Cl.intsV _ | exact Cl.req _ | exact Cl.rsp _ | exact Cl.reqA _ | exact Cl.rspA _ | exact Cl.batsV _ | exact Cl.prsV _ | exact Cl.atsV _ | exact Cl.entA _ _ | exact Cl.ent _ | exact Cl.rr _ _ | exact Cl.foundA _ | exact Cl.getB _ | exact Cl.encA _ | exact Cl.firstA _ | refine ClL.cons ?_ ?_ | refine Cl.tup ?_ | refine Cl.agg ?_ | exact ClO.RO _ _)) : Cl _) _, ⟨⟨by decide, rfl⟩, ⟨by decide, ClO.fE _ _⟩, ⟨by decide, ClO.mE _ _⟩, trivial⟩⟩
    have h0 : r4 = [] := List.eq_nil_of_length_eq_zero (by simp at h0; simpa using h0)
    subst h0
    have zp := z1 n yv hkt rfl rfl
    (conv => arg 4; whnf); repeat (refine ⟨rfl, ?_⟩; conv => arg 4; whnf)
    refine ⟨fun _ => ?_, fun h => absurd h (by first | (simp; done) | (simp [u8s]; done))⟩
    conv => arg 4; whnf
    refine holds_args (args' := [(⟨s2, s3, p, n⟩ : Ent).av]) ⟨Le.refl _ _, trivial⟩ ?_
    refine call0 (cmMay (e := ⟨s2, s3, p, n⟩) (by show s2.length ≤ 1000000; omega) (by show s3.length ≤ 1000000; omega)) (ClL.cons (Cl.ent _) ClL.nil) (by (repeat' (first | with_reducible assumption | exact ClL.nil | exact Cl.int _ _ | exact Cl.bool _ | exact Cl.bl _ | exact Cl.bs _ | exact Cl.str _ | exact Cl.nils | exact Cl.nilp | exact Cl.rec _ | exact Cl.bat _ | exact Cl.recsV _ | exact Cl.strsV _ | exact Cl.intsV _ | exact Cl.req _ | exact Cl.rsp _ | exact Cl.reqA _ | exact Cl.rspA _ | exact Cl.batsV _ | exact Cl.prsV _ | exact Cl.atsV _ | exact Cl.entA _ _ | exact Cl.ent _ | exact Cl.rr _ _ | exact Cl.foundA _ | exact Cl.getB _ | exact Cl.encA _ | exact Cl.firstA _ | refine ClL.cons ?_ ?_ | refine Cl.tup ?_ | refine Cl.agg ?_ | exact ClO.RO _ _))) ?_
    (conv => arg 4; whnf); repeat (refine ⟨rfl, ?_⟩; conv => arg 4; whnf)
    cases hm : mayE ⟨s2, s3, p, n⟩ with
    | true =>
      cases hhv : r.hv with
      | true =>
        have hp : parse r = some (.put ⟨s2, s3, p, n⟩) := by rw [zp, if_pos hm, if_pos hhv]
        rw [hp]
        refine ⟨fun _ => ?_, fun h' => absurd h' (by decide)⟩
        (conv => arg 4; whnf); repeat (refine ⟨rfl, ?_⟩; conv => arg 4; whnf)
        refine callTab 0 1 2 (cmPutOk (m := m) (f := f) hm) rfl rfl rfl rfl rfl rfl rfl rfl rfl ?_
        (conv => arg 4; whnf); repeat (refine ⟨rfl, ?_⟩; conv => arg 4; whnf)
        exact ⟨by decide, Le.refl _ _, ⟨⟨_, rfl, LeO.refl _ _⟩, ⟨_, rfl, LeO.refl _ _⟩, ⟨_, rfl, LeO.refl _ _⟩, trivial⟩, (by (repeat' (first | with_reducible assumption | exact ClL.nil | exact Cl.int _ _ | exact Cl.bool _ | exact Cl.bl _ | exact Cl.bs _ | exact Cl.str _ | exact Cl.nils | exact Cl.nilp | exact Cl.rec _ | exact Cl.bat _ | exact Cl.recsV _ | exact Cl.strsV _ | exact Cl.intsV _ | exact Cl.req _ | exact Cl.rsp _ | exact Cl.reqA _ | exact Cl.rspA _ | exact Cl.batsV _ | exact Cl.prsV _ | exact Cl.atsV _ | exact Cl.entA _ _ | exact Cl.ent _ | exact Cl.rr _ _ | exact Cl.foundA _ | exact Cl.getB _ | exact Cl.encA _ | exact Cl.firstA _ | refine ClL.cons ?_ ?_ | refine Cl.tup ?_ | refine Cl.agg ?_ | exact ClO.RO _ _)) : Cl _) _, ⟨⟨by decide, rfl⟩, ⟨by decide, ClO.fE _ _⟩, ⟨by decide, ClO.mE _ _⟩, trivial⟩⟩
      | false =>
        have hp : parse r = some (.drop ⟨s2, s3, p, n⟩) := by rw [zp, if_pos hm, if_neg (by rw [hhv]; decide)]
        rw [hp]
        refine ⟨fun h' => absurd h' (by decide), fun _ => ?_⟩
        (conv => arg 4; whnf); repeat (refine ⟨rfl, ?_⟩; conv => arg 4; whnf)
        refine ⟨fun _ => ?_, fun h => absurd h (by first | (simp; done) | (simp [u8s]; done))⟩
        conv => arg 4; whnf
        refine holds_args (args' := [(⟨s2, s3, p, n⟩ : Ent).av]) ⟨Le.refl _ _, trivial⟩ ?_
        refine call0 (cmMay (e := ⟨s2, s3, p, n⟩) (by show s2.length ≤ 1000000; omega) (by show s3.length ≤ 1000000; omega)) (ClL.cons (Cl.ent _) ClL.nil) (by (repeat' (first | with_reducible assumption | exact ClL.nil | exact Cl.int _ _ | exact Cl.bool _ | exact Cl.bl _ | exact Cl.bs _ | exact Cl.str _ | exact Cl.nils | exact Cl.nilp | exact Cl.rec _ | exact Cl.bat _ | exact Cl.recsV _ | exact Cl.strsV _ | exact Cl.intsV _ | exact Cl.req _ | exact Cl.rsp _ | exact Cl.reqA _ | exact Cl.rspA _ | exact Cl.batsV _ | exact Cl.prsV _ | exact Cl.atsV _ | exact Cl.entA _ _ | exact Cl.ent _ | exact Cl.rr _ _ | exact Cl.foundA _ | exact Cl.getB _ | exact Cl.encA _ | exact Cl.firstA _ | refine ClL.cons ?_ ?_ | refine Cl.tup ?_ | refine Cl.agg ?_ | exact ClO.RO _ _))) ?_
        (conv => arg 4; whnf); repeat (refine ⟨rfl, ?_⟩; conv => arg 4; whnf)
        refine ⟨fun _ => ?_, fun h' => absurd (hm.symm.trans h') (by decide)⟩
        (conv => arg 4; whnf); repeat (refine ⟨rfl, ?_⟩; conv => arg 4; whnf)
        refine callTab 0 1 2 (cmDrop (m := m) (f := f) (e := ⟨s2, s3, p, n⟩)) rfl rfl rfl rfl rfl rfl rfl rfl rfl ?_
        (conv => arg 4; whnf); repeat (refine ⟨rfl, ?_⟩; conv => arg 4; whnf)
        exact ⟨by decide, Le.refl _ _, ⟨⟨_, rfl, LeO.refl _ _⟩, ⟨_, rfl, LeO.refl _ _⟩, ⟨_, rfl, LeO.refl _ _⟩, trivial⟩, (by (repeat' (first | with_reducible assumption | exact ClL.nil | exact Cl.int _ _ | exact Cl.bool _ | exact Cl.bl _ | exact Cl.bs _ | exact Cl.str _ | exact Cl.nils | exact Cl.nilp | exact Cl.rec _ | exact Cl.bat _ | exact Cl.recsV _ | exact Cl.strsV _ | exact Cl.intsV _ | exact Cl.req _ | exact Cl.rsp _ | exact Cl.reqA _ | exact Cl.rspA _ | exact Cl.batsV _ | exact Cl.prsV _ | exact Cl.atsV _ | exact Cl.entA _ _ | exact Cl.ent _ | exact Cl.rr _ _ | exact Cl.foundA _ | exact Cl.getB _ | exact Cl.encA _ | exact Cl.firstA _ | refine ClL.cons ?_ ?_ | refine Cl.tup ?_ | refine Cl.agg ?_ | exact ClO.RO _ _)) : Cl _) _, ⟨⟨by decide, rfl⟩, ⟨by decide, ClO.fE _ _⟩, ⟨by decide, ClO.mE _ _⟩, trivial⟩⟩
    | false =>
      have hp : parse r = none := by rw [zp, if_neg (by rw [hm]; decide)]
      rw [hp]
      refine ⟨fun h' => absurd h' (by simp), fun _ => ?_⟩
      (conv => arg 4; whnf); repeat (refine ⟨rfl, ?_⟩; conv => arg 4; whnf)
      refine ⟨fun _ => ?_, fun h => absurd h (by first | (simp; done) | (simp [u8s]; done))⟩
      conv => arg 4; whnf
      refine holds_args (args' := [(⟨s2, s3, p, n⟩ : Ent).av]) ⟨Le.refl _ _, trivial⟩ ?_
      refine call0 (cmMay (e := ⟨s2, s3, p, n⟩) (by show s2.length ≤ 1000000; omega) (by show s3.length ≤ 1000000; omega)) (ClL.cons (Cl.ent _) ClL.nil) (by (repeat' (first | with_reducible assumption | exact ClL.nil | exact Cl.int _ _ | exact Cl.bool _ | exact Cl.bl _ | exact Cl.bs _ | exact Cl.str _ | exact Cl.nils | exact Cl.nilp | exact Cl.rec _ | exact Cl.bat _ | exact Cl.recsV _ | exact Cl.strsV _ | exact Cl.intsV _ | exact Cl.req _ | exact Cl.rsp _ | exact Cl.reqA _ | exact Cl.rspA _ | exact Cl.batsV _ | exact Cl.prsV _ | exact Cl.atsV _ | exact Cl.entA _ _ | exact Cl.ent _ | exact Cl.rr _ _ | exact Cl.foundA _ | exact Cl.getB _ | exact Cl.encA _ | exact Cl.firstA _ | refine ClL.cons ?_ ?_ | refine Cl.tup ?_ | refine Cl.agg ?_ | exact ClO.RO _ _))) ?_
      (conv => arg 4; whnf); repeat (refine ⟨rfl, ?_⟩; conv => arg 4; whnf)
      refine ⟨fun h' => absurd (hm.symm.trans h') (by decide), fun _ => ?_⟩
      (conv => arg 4; whnf); repeat (refine ⟨rfl, ?_⟩; conv => arg 4; whnf)
      refine ⟨fun h => absurd h (by first | (simp; done) | (simp [u8s]; done)), fun _ => ?_⟩
      conv => arg 4; whnf
      refine ⟨fun h => absurd h (by first | (simp; done) | (simp [u8s]; done)), fun _ => ?_⟩
      conv => arg 4; whnf
      exact ⟨by decide, Le.refl _ _, ⟨⟨_, rfl, LeO.refl _ _⟩, ⟨_, rfl, LeO.refl _ _⟩, ⟨_, rfl, LeO.refl _ _⟩, trivial⟩, (by (repeat' (first | with_reducible assumption | exact ClL.nil | exact Cl.int _ _ | exact Cl.bool _ | exact Cl.bl _ | exact Cl.bs _ | exact Cl.str _ | exact Cl.nils | exact Cl.nilp | exact Cl.rec _ | exact Cl.bat _ | exact Cl.recsV _ | exact Cl.strsV _ | exact Cl.intsV _ | exact Cl.req _ | exact Cl.rsp _ | exact Cl.reqA _ | exact Cl.rspA _ | exact Cl.batsV _ | exact Cl.prsV _ | exact Cl.atsV _ | exact Cl.entA _ _ | exact Cl.ent _ | exact Cl.rr _ _ | exact Cl.foundA _ | exact Cl.getB _ | exact Cl.encA _ | exact Cl.firstA _ | refine ClL.cons ?_ ?_ | refine Cl.tup ?_ | refine Cl.agg ?_ | exact ClO.RO _ _)) : Cl _) _, ⟨⟨by decide, rfl⟩, ⟨by decide, ClO.fE _ _⟩, ⟨by decide, ClO.mE _ _⟩, trivial⟩⟩
  · have hs : s1 ≠ [111] := by simpa using hs
    obtain ⟨z1, z2⟩ := parse_n h1 hs h2
    (conv => arg 4; whnf); repeat (refine ⟨rfl, ?_⟩; conv => arg 4; whnf)
    refine call0 cv (by (repeat' (first | with_reducible assumption | exact ClL.nil | exact Cl.int _ _ | exact Cl.bool _ | exact Cl.bl _ | exact Cl.bs _ | exact Cl.str _ | exact Cl.nils | exact Cl.nilp | exact Cl.rec _ | exact Cl.bat _ | exact Cl.recsV _ | exact Cl.strsV _ | exact Cl.intsV _ | exact Cl.req _ | exact Cl.rsp _ | exact Cl.reqA _ | exact Cl.rspA _ | exact Cl.batsV _ | exact Cl.prsV _ | exact Cl.atsV _ | exact Cl.entA _ _ | exact Cl.ent _ | exact Cl.rr _ _ | exact Cl.foundA _ | exact Cl.getB _ | exact Cl.encA _ | exact Cl.firstA _ | refine ClL.cons ?_ ?_ | refine Cl.tup ?_ | refine Cl.agg ?_ | exact ClO.RO _ _))) (by (repeat' (first | with_reducible assumption | exact ClL.nil | exact Cl.int _ _ | exact Cl.bool _ | exact Cl.bl _ | exact Cl.bs _ | exact Cl.str _ | exact Cl.nils | exact Cl.nilp | exact Cl.rec _ | exact Cl.bat _ | exact Cl.recsV _ | exact Cl.strsV _ | exact Cl.intsV _ | exact Cl.req _ | exact Cl.rsp _ | exact Cl.reqA _ | exact Cl.rspA _ | exact Cl.batsV _ | exact Cl.prsV _ | exact Cl.atsV _ | exact Cl.entA _ _ | exact Cl.ent _ | exact Cl.rr _ _ | exact Cl.foundA _ | exact Cl.getB _ | exact Cl.encA _ | exact Cl.firstA _ | refine ClL.cons ?_ ?_ | refine Cl.tup ?_ | refine Cl.agg ?_ | exact ClO.RO _ _))) ?_
    (conv => arg 4; whnf); repeat (refine ⟨rfl, ?_⟩; conv => arg 4; whnf)
    refine ⟨fun hb => ?_, fun hb => ?_⟩
    · have hp : parse r = none := z2 (by
        cases ok with
        | false => exact .inl (y2 rfl)
        | true => exact .inr (.inl (by simpa using hb)))
      rw [hp]
      (conv => arg 4; whnf); repeat (refine ⟨rfl, ?_⟩; conv => arg 4; whnf)
      exact ⟨by decide, Le.refl _ _, ⟨⟨_, rfl, LeO.refl _ _⟩, ⟨_, rfl, LeO.refl _ _⟩, ⟨_, rfl, LeO.refl _ _⟩, trivial⟩, (by (repeat' (first | with_reducible assumption | exact ClL.nil | exact Cl.int _ _ | exact Cl.bool _ | exact Cl.bl _ | exact Cl.bs _ | exact Cl.str _ | exact Cl.nils | exact Cl.nilp | exact Cl.rec _ | exact Cl.bat _ | exact Cl.recsV _ | exact Cl.strsV _ | exact Cl.intsV _ | exact Cl.req _ | exact Cl.rsp _ | exact Cl.reqA _ | exact Cl.rspA _ | exact Cl.batsV _ | exact Cl.prsV _ | exact Cl.atsV _ | exact Cl.entA _ _ | exact Cl.ent _ | exact Cl.rr _ _ | exact Cl.foundA _ | exact Cl.getB _ | exact Cl.encA _ | exact Cl.firstA _ | refine ClL.cons ?_ ?_ | refine Cl.tup ?_ | refine Cl.agg ?_ | exact ClO.RO _ _)) : Cl _) _, ⟨⟨by decide, rfl⟩, ⟨by decide, ClO.fE _ _⟩, ⟨by decide, ClO.mE _ _⟩, trivial⟩⟩
    obtain ⟨rfl, hkt⟩ : ok = true ∧ r.hk = true := by cases ok <;> simp at hb ⊢; exact hb
    have yv := y1 rfl
    (conv => arg 4; whnf); repeat (refine ⟨rfl, ?_⟩; conv => arg 4; whnf)
    refine call1 4 rErr rfl rfl (ClO.RO _ _) (ClO.RO _ _) rfl (Cl.int _ _) ?_
    (conv => arg 4; whnf); repeat (refine ⟨rfl, ?_⟩; conv => arg 4; whnf)
    refine ⟨fun h0 => ?_, fun h0 => ?_⟩
    · have h0 : e2 ≠ 0 := by simpa using h0
      have hp : parse r = none := z2 (.inr (.inr (.inl h0)))
      rw [hp]
      (conv => arg 4; whnf); repeat (refine ⟨rfl, ?_⟩; conv => arg 4; whnf)
      exact ⟨by decide, Le.refl _ _, ⟨⟨_, rfl, LeO.refl _ _⟩, ⟨_, rfl, LeO.refl _ _⟩, ⟨_, rfl, LeO.refl _ _⟩, trivial⟩, (by (repeat' (first | with_reducible assumption | exact ClL.nil | exact Cl.int _ _ | exact Cl.bool _ | exact Cl.bl _ | exact Cl.bs _ | exact Cl.str _ | exact Cl.nils | exact Cl.nilp | exact Cl.rec _ | exact Cl.bat _ | exact Cl.recsV _ | exact Cl.strsV _ | exact Cl.intsV _ | exact Cl.req _ | exact Cl.rsp _ | exact Cl.reqA _ | exact Cl.rspA _ | exact Cl.batsV _ | exact Cl.prsV _ | exact Cl.atsV _ | exact Cl.entA _ _ | exact Cl.ent _ | exact Cl.rr _ _ | exact Cl.foundA _ | exact Cl.getB _ | exact Cl.encA _ | exact Cl.firstA _ | refine ClL.cons ?_ ?_ | refine Cl.tup ?_ | refine Cl.agg ?_ | exact ClO.RO _ _)) : Cl _) _, ⟨⟨by decide, rfl⟩, ⟨by decide, ClO.fE _ _⟩, ⟨by decide, ClO.mE _ _⟩, trivial⟩⟩
    have h0 : e2 = 0 := by simpa using h0
    subst h0
    (conv => arg 4; whnf); repeat (refine ⟨rfl, ?_⟩; conv => arg 4; whnf)
    refine call1 4 rLeft rfl rfl (ClO.RO _ _) (ClO.RO _ _) rfl (Cl.int _ _) ?_
    (conv => arg 4; whnf); repeat (refine ⟨rfl, ?_⟩; conv => arg 4; whnf)
    refine ⟨fun h0 => ?_, fun h0 => ?_⟩
    · have hp : parse r = none := z2 (.inr (.inr (.inr (fun h => by subst h; simp at h0))))
      rw [hp]
      (conv => arg 4; whnf); repeat (refine ⟨rfl, ?_⟩; conv => arg 4; whnf)
      exact ⟨by decide, Le.refl _ _, ⟨⟨_, rfl, LeO.refl _ _⟩, ⟨_, rfl, LeO.refl _ _⟩, ⟨_, rfl, LeO.refl _ _⟩, trivial⟩, (by (repeat' (first | with_reducible assumption | exact ClL.nil | exact Cl.int _ _ | exact Cl.bool _ | exact Cl.bl _ | exact Cl.bs _ | exact Cl.str _ | exact Cl.nils | exact Cl.nilp | exact Cl.rec _ | exact Cl.bat _ | exact Cl.recsV _ | exact Cl.strsV _ | exact Cl.intsV _ | exact Cl.req _ | exact Cl.rsp _ | exact Cl.reqA _ | exact Cl.rspA _ | exact Cl.batsV _ | exact Cl.prsV _ | exact Cl.atsV _ | exact Cl.entA _ _ | exact Cl.ent _ | exact Cl.rr _ _ | exact Cl.foundA _ | exact Cl.getB _ | exact Cl.encA _ | exact Cl.firstA _ | refine ClL.cons ?_ ?_ | refine Cl.tup ?_ | refine Cl.agg ?_ | exact ClO.RO _ _)) : Cl _) _, ⟨⟨by decide, rfl⟩, ⟨by decide, ClO.fE _ _⟩, ⟨by decide, ClO.mE _ _⟩, trivial⟩⟩
    have h0 : r2 = [] := List.eq_nil_of_length_eq_zero (by simp at h0; simpa using h0)
    subst h0
    have zp := z1 n yv hkt rfl rfl
    (conv => arg 4; whnf); repeat (refine ⟨rfl, ?_⟩; conv => arg 4; whnf)
    refine ⟨fun h' => absurd (by simpa using h') hs, fun _ => ?_⟩
    (conv => arg 4; whnf); repeat (refine ⟨rfl, ?_⟩; conv => arg 4; whnf)
    refine ⟨fun h' => absurd (by simpa using h') hs, fun _ => ?_⟩
    (conv => arg 4; whnf); repeat (refine ⟨rfl, ?_⟩; conv => arg 4; whnf)
    refine ⟨fun hg => ?_, fun hg => ?_⟩
    · have hg : s1 = [103] := by simpa using hg
      rw [if_pos hg] at zp
      (conv => arg 4; whnf); repeat (refine ⟨rfl, ?_⟩; conv => arg 4; whnf)
      refine call0 (cmMayGen (g := s2) (n := n) (by omega)) (by (repeat' (first | with_reducible assumption | exact ClL.nil | exact Cl.int _ _ | exact Cl.bool _ | exact Cl.bl _ | exact Cl.bs _ | exact Cl.str _ | exact Cl.nils | exact Cl.nilp | exact Cl.rec _ | exact Cl.bat _ | exact Cl.recsV _ | exact Cl.strsV _ | exact Cl.intsV _ | exact Cl.req _ | exact Cl.rsp _ | exact Cl.reqA _ | exact Cl.rspA _ | exact Cl.batsV _ | exact Cl.prsV _ | exact Cl.atsV _ | exact Cl.entA _ _ | exact Cl.ent _ | exact Cl.rr _ _ | exact Cl.foundA _ | exact Cl.getB _ | exact Cl.encA _ | exact Cl.firstA _ | refine ClL.cons ?_ ?_ | refine Cl.tup ?_ | refine Cl.agg ?_ | exact ClO.RO _ _))) (by (repeat' (first | with_reducible assumption | exact ClL.nil | exact Cl.int _ _ | exact Cl.bool _ | exact Cl.bl _ | exact Cl.bs _ | exact Cl.str _ | exact Cl.nils | exact Cl.nilp | exact Cl.rec _ | exact Cl.bat _ | exact Cl.recsV _ | exact Cl.strsV _ | exact Cl.intsV _ | exact Cl.req _ | exact Cl.rsp _ | exact Cl.reqA _ | exact Cl.rspA _ | exact Cl.batsV _ | exact Cl.prsV _ | exact Cl.atsV _ | exact Cl.entA _ _ | exact Cl.ent _ | exact Cl.rr _ _ | exact Cl.foundA _ | exact Cl.getB _ | exact Cl.encA _ | exact Cl.firstA _ | refine ClL.cons ?_ ?_ | refine Cl.tup ?_ | refine Cl.agg ?_ | exact ClO.RO _ _))) ?_
      (conv => arg 4; whnf); repeat (refine ⟨rfl, ?_⟩; conv => arg 4; whnf)
      cases hm : mayG s2 n with
      | true =>
        rw [if_pos hm] at zp
        cases hhv : r.hv with
        | true =>
          rw [if_pos hhv] at zp
          rw [zp]
          refine ⟨fun _ => ?_, fun h' => absurd h' (by decide)⟩
          (conv => arg 4; whnf); repeat (refine ⟨rfl, ?_⟩; conv => arg 4; whnf)
          refine callTab 0 1 2 (cmGenOk (m := m) (f := f) hm) rfl rfl rfl rfl rfl rfl rfl rfl rfl ?_
          (conv => arg 4; whnf); repeat (refine ⟨rfl, ?_⟩; conv => arg 4; whnf)
          exact ⟨by decide, Le.refl _ _, ⟨⟨_, rfl, LeO.refl _ _⟩, ⟨_, rfl, LeO.refl _ _⟩, ⟨_, rfl, LeO.refl _ _⟩, trivial⟩, (by (repeat' (first | with_reducible assumption | exact ClL.nil | exact Cl.int _ _ | exact Cl.bool _ | exact Cl.bl _ | exact Cl.bs _ | exact Cl.str _ | exact Cl.nils | exact Cl.nilp | exact Cl.rec _ | exact Cl.bat _ | exact Cl.recsV _ | exact Cl.strsV _ | exact Cl.intsV _ | exact Cl.req _ | exact Cl.rsp _ | exact Cl.reqA _ | exact Cl.rspA _ | exact Cl.batsV _ | exact Cl.prsV _ | exact Cl.atsV _ | exact Cl.entA _ _ | exact Cl.ent _ | exact Cl.rr _ _ | exact Cl.foundA _ | exact Cl.getB _ | exact Cl.encA _ | exact Cl.firstA _ | refine ClL.cons ?_ ?_ | refine Cl.tup ?_ | refine Cl.agg ?_ | exact ClO.RO _ _)) : Cl _) _, ⟨⟨by decide, rfl⟩, ⟨by decide, ClO.fE _ _⟩, ⟨by decide, ClO.mE _ _⟩, trivial⟩⟩
        | false =>
          rw [if_neg (by rw [hhv]; decide)] at zp
          rw [zp]
          refine ⟨fun h' => absurd h' (by decide), fun _ => ?_⟩
          (conv => arg 4; whnf); repeat (refine ⟨rfl, ?_⟩; conv => arg 4; whnf)
          refine ⟨fun _ => ?_, fun h' => absurd hg (by simpa using h')⟩
          (conv => arg 4; whnf); repeat (refine ⟨rfl, ?_⟩; conv => arg 4; whnf)
          refine call0 (cmMayGen (g := s2) (n := n) (by omega)) (by (repeat' (first | with_reducible assumption | exact ClL.nil | exact Cl.int _ _ | exact Cl.bool _ | exact Cl.bl _ | exact Cl.bs _ | exact Cl.str _ | exact Cl.nils | exact Cl.nilp | exact Cl.rec _ | exact Cl.bat _ | exact Cl.recsV _ | exact Cl.strsV _ | exact Cl.intsV _ | exact Cl.req _ | exact Cl.rsp _ | exact Cl.reqA _ | exact Cl.rspA _ | exact Cl.batsV _ | exact Cl.prsV _ | exact Cl.atsV _ | exact Cl.entA _ _ | exact Cl.ent _ | exact Cl.rr _ _ | exact Cl.foundA _ | exact Cl.getB _ | exact Cl.encA _ | exact Cl.firstA _ | refine ClL.cons ?_ ?_ | refine Cl.tup ?_ | refine Cl.agg ?_ | exact ClO.RO _ _))) (by (repeat' (first | with_reducible assumption | exact ClL.nil | exact Cl.int _ _ | exact Cl.bool _ | exact Cl.bl _ | exact Cl.bs _ | exact Cl.str _ | exact Cl.nils | exact Cl.nilp | exact Cl.rec _ | exact Cl.bat _ | exact Cl.recsV _ | exact Cl.strsV _ | exact Cl.intsV _ | exact Cl.req _ | exact Cl.rsp _ | exact Cl.reqA _ | exact Cl.rspA _ | exact Cl.batsV _ | exact Cl.prsV _ | exact Cl.atsV _ | exact Cl.entA _ _ | exact Cl.ent _ | exact Cl.rr _ _ | exact Cl.foundA _ | exact Cl.getB _ | exact Cl.encA _ | exact Cl.firstA _ | refine ClL.cons ?_ ?_ | refine Cl.tup ?_ | refine Cl.agg ?_ | exact ClO.RO _ _))) ?_
          (conv => arg 4; whnf); repeat (refine ⟨rfl, ?_⟩; conv => arg 4; whnf)
          refine ⟨fun _ => ?_, fun h' => absurd (hm.symm.trans h') (by decide)⟩
          (conv => arg 4; whnf); repeat (refine ⟨rfl, ?_⟩; conv => arg 4; whnf)
          refine ⟨askF f s2, ?_⟩
          (conv => arg 4; whnf); repeat (refine ⟨rfl, ?_⟩; conv => arg 4; whnf)
          exact ⟨by decide, Le.refl _ _, ⟨⟨_, rfl, LeO.refl _ _⟩, ⟨_, rfl, by show LeO _ (.map (delE (fE f) (.str s2))) (.map (fE (delM f s2))); rw [← del_fE]; exact LeO.refl _ _⟩, ⟨_, rfl, LeO.refl _ _⟩, trivial⟩, (by (repeat' (first | with_reducible assumption | exact ClL.nil | exact Cl.int _ _ | exact Cl.bool _ | exact Cl.bl _ | exact Cl.bs _ | exact Cl.str _ | exact Cl.nils | exact Cl.nilp | exact Cl.rec _ | exact Cl.bat _ | exact Cl.recsV _ | exact Cl.strsV _ | exact Cl.intsV _ | exact Cl.req _ | exact Cl.rsp _ | exact Cl.reqA _ | exact Cl.rspA _ | exact Cl.batsV _ | exact Cl.prsV _ | exact Cl.atsV _ | exact Cl.entA _ _ | exact Cl.ent _ | exact Cl.rr _ _ | exact Cl.foundA _ | exact Cl.getB _ | exact Cl.encA _ | exact Cl.firstA _ | refine ClL.cons ?_ ?_ | refine Cl.tup ?_ | refine Cl.agg ?_ | exact ClO.RO _ _)) : Cl _) _, ⟨⟨by decide, rfl⟩, ⟨by decide, ClO.fE _ _⟩, ⟨by decide, ClO.mE _ _⟩, trivial⟩⟩
      | false =>
        rw [if_neg (by rw [hm]; decide)] at zp
        rw [zp]
        refine ⟨fun h' => absurd h' (by simp), fun _ => ?_⟩
        (conv => arg 4; whnf); repeat (refine ⟨rfl, ?_⟩; conv => arg 4; whnf)
        refine ⟨fun _ => ?_, fun h' => absurd hg (by simpa using h')⟩
        (conv => arg 4; whnf); repeat (refine ⟨rfl, ?_⟩; conv => arg 4; whnf)
        refine call0 (cmMayGen (g := s2) (n := n) (by omega)) (by (repeat' (first | with_reducible assumption | exact ClL.nil | exact Cl.int _ _ | exact Cl.bool _ | exact Cl.bl _ | exact Cl.bs _ | exact Cl.str _ | exact Cl.nils | exact Cl.nilp | exact Cl.rec _ | exact Cl.bat _ | exact Cl.recsV _ | exact Cl.strsV _ | exact Cl.intsV _ | exact Cl.req _ | exact Cl.rsp _ | exact Cl.reqA _ | exact Cl.rspA _ | exact Cl.batsV _ | exact Cl.prsV _ | exact Cl.atsV _ | exact Cl.entA _ _ | exact Cl.ent _ | exact Cl.rr _ _ | exact Cl.foundA _ | exact Cl.getB _ | exact Cl.encA _ | exact Cl.firstA _ | refine ClL.cons ?_ ?_ | refine Cl.tup ?_ | refine Cl.agg ?_ | exact ClO.RO _ _))) (by (repeat' (first | with_reducible assumption | exact ClL.nil | exact Cl.int _ _ | exact Cl.bool _ | exact Cl.bl _ | exact Cl.bs _ | exact Cl.str _ | exact Cl.nils | exact Cl.nilp | exact Cl.rec _ | exact Cl.bat _ | exact Cl.recsV _ | exact Cl.strsV _ | exact Cl.intsV _ | exact Cl.req _ | exact Cl.rsp _ | exact Cl.reqA _ | exact Cl.rspA _ | exact Cl.batsV _ | exact Cl.prsV _ | exact Cl.atsV _ | exact Cl.entA _ _ | exact Cl.ent _ | exact Cl.rr _ _ | exact Cl.foundA _ | exact Cl.getB _ | exact Cl.encA _ | exact Cl.firstA _ | refine ClL.cons ?_ ?_ | refine Cl.tup ?_ | refine Cl.agg ?_ | exact ClO.RO _ _))) ?_
        (conv => arg 4; whnf); repeat (refine ⟨rfl, ?_⟩; conv => arg 4; whnf)
        refine ⟨fun h' => absurd (hm.symm.trans h') (by decide), fun _ => ?_⟩
        (conv => arg 4; whnf); repeat (refine ⟨rfl, ?_⟩; conv => arg 4; whnf)
        exact ⟨by decide, Le.refl _ _, ⟨⟨_, rfl, LeO.refl _ _⟩, ⟨_, rfl, LeO.refl _ _⟩, ⟨_, rfl, LeO.refl _ _⟩, trivial⟩, (by (repeat' (first | with_reducible assumption | exact ClL.nil | exact Cl.int _ _ | exact Cl.bool _ | exact Cl.bl _ | exact Cl.bs _ | exact Cl.str _ | exact Cl.nils | exact Cl.nilp | exact Cl.rec _ | exact Cl.bat _ | exact Cl.recsV _ | exact Cl.strsV _ | exact Cl.intsV _ | exact Cl.req _ | exact Cl.rsp _ | exact Cl.reqA _ | exact Cl.rspA _ | exact Cl.batsV _ | exact Cl.prsV _ | exact Cl.atsV _ | exact Cl.entA _ _ | exact Cl.ent _ | exact Cl.rr _ _ | exact Cl.foundA _ | exact Cl.getB _ | exact Cl.encA _ | exact Cl.firstA _ | refine ClL.cons ?_ ?_ | refine Cl.tup ?_ | refine Cl.agg ?_ | exact ClO.RO _ _)) : Cl _) _, ⟨⟨by decide, rfl⟩, ⟨by decide, ClO.fE _ _⟩, ⟨by decide, ClO.mE _ _⟩, trivial⟩⟩
    · have hg : s1 ≠ [103] := by simpa using hg
      rw [if_neg hg] at zp
      rw [zp]
      (conv => arg 4; whnf); repeat (refine ⟨rfl, ?_⟩; conv => arg 4; whnf)
      refine ⟨fun h' => absurd (by simpa using h') hg, fun _ => ?_⟩
      (conv => arg 4; whnf); repeat (refine ⟨rfl, ?_⟩; conv => arg 4; whnf)
      exact ⟨by decide, Le.refl _ _, ⟨⟨_, rfl, LeO.refl _ _⟩, ⟨_, rfl, LeO.refl _ _⟩, ⟨_, rfl, LeO.refl _ _⟩, trivial⟩, (by (repeat' (first | with_reducible assumption | exact ClL.nil | exact Cl.int _ _ | exact Cl.bool _ | exact Cl.bl _ | exact Cl.bs _ | exact Cl.str _ | exact Cl.nils | exact Cl.nilp | exact Cl.rec _ | exact Cl.bat _ | exact Cl.recsV _ | exact Cl.strsV _ | exact Cl.intsV _ | exact Cl.req _ | exact Cl.rsp _ | exact Cl.reqA _ | exact Cl.rspA _ | exact Cl.batsV _ | exact Cl.prsV _ | exact Cl.atsV _ | exact Cl.entA _ _ | exact Cl.ent _ | exact Cl.rr _ _ | exact Cl.foundA _ | exact Cl.getB _ | exact Cl.encA _ | exact Cl.firstA _ | refine ClL.cons ?_ ?_ | refine Cl.tup ?_ | refine Cl.agg ?_ | exact ClO.RO _ _)) : Cl _) _, ⟨⟨by decide, rfl⟩, ⟨by decide, ClO.fE _ _⟩, ⟨by decide, ClO.mE _ _⟩, trivial⟩⟩
end Go.Proofs.Ytlifbhcmihnkpaa.Cm

namespace Go.Proofs.Ytlifbhcmihnkpaa.Cm
set_option maxRecDepth 100000
set_option maxHeartbeats 80000000
open Go.Sym

theorem idx_four (i j k l x : Nat) : idx x [i, j, k, l] = bif Nat.beq i x then some 0 else bif Nat.beq j x then some 1 else bif Nat.beq k x then some 2 else bif Nat.beq l x then some 3 else none := by
  unfold idx
  cases Nat.beq i x with
  | true => rfl
  | false =>
    unfold idx
    cases Nat.beq j x with
    | true => rfl
    | false =>
      unfold idx
      cases Nat.beq k x with
      | true => rfl
      | false =>
        unfold idx
        cases Nat.beq l x with
        | true => rfl
        | false => rfl
/-- A table's objects, and the document's. -/
abbrev T4 (m : List (MK × Int)) (f : List (List UInt8 × Int)) (L : List Ent) (F : List (List UInt8 × Int)) : Heap := (3, rcO L F) :: TH m f
theorem keepH_four {nx i j k l : Nat} {o0 o1 o2 o3 q0 q1 q2 q3 : AObj} {h0 : Heap} (g0 : get h0 0 = some o0) (g1 : get h0 1 = some o1) (g2 : get h0 2 = some o2) (g3 : get h0 3 = some o3)
    (hij : Nat.beq i j = false) (hik : Nat.beq i k = false) (hil : Nat.beq i l = false) (hjk : Nat.beq j k = false) (hjl : Nat.beq j l = false) (hkl : Nat.beq k l = false)
    (e0 : renO (rho nx [i, j, k, l]) o0 = q0) (e1 : renO (rho nx [i, j, k, l]) o1 = q1) (e2 : renO (rho nx [i, j, k, l]) o2 = q2) (e3 : renO (rho nx [i, j, k, l]) o3 = q3) : ∀ h : Heap, keepH nx [i, j, k, l] h0 h = updA (updA (updA (updA h i q0) j q1) k q2) l q3
  | [] => rfl
  | (x, o) :: r => by
    rw [keepH_cons, keepH_four g0 g1 g2 g3 hij hik hil hjk hjl hkl e0 e1 e2 e3 r, idx_four, updA_cons]
    cases hx : Nat.beq i x with
    | true =>
      have := Nat.eq_of_beq_eq_true hx
      subst this
      simp only [cond_true]
      rw [updA_cons, beq_no hij]
      simp only [cond_false]
      rw [updA_cons, beq_no hik]
      simp only [cond_false]
      rw [updA_cons, beq_no hil, g0]
      show (i, renO _ o0) :: _ = _
      rw [e0]
      rfl
    | false =>
      simp only [cond_false]
      rw [updA_cons]
      cases hy : Nat.beq j x with
      | true =>
        have := Nat.eq_of_beq_eq_true hy
        subst this
        simp only [cond_true]
        rw [updA_cons, beq_no hjk]
        simp only [cond_false]
        rw [updA_cons, beq_no hjl, g1]
        show (j, renO _ o1) :: _ = _
        rw [e1]
        rfl
      | false =>
        simp only [cond_false]
        rw [updA_cons]
        cases hz : Nat.beq k x with
        | true =>
          have := Nat.eq_of_beq_eq_true hz
          subst this
          simp only [cond_true]
          rw [updA_cons, beq_no hkl, g2]
          show (k, renO _ o2) :: _ = _
          rw [e2]
          rfl
        | false =>
          simp only [cond_false]
          rw [updA_cons]
          cases hw : Nat.beq l x with
          | true =>
            have := Nat.eq_of_beq_eq_true hw
            subst this
            simp only [cond_true]
            rw [g3]
            show (l, renO _ o3) :: _ = _
            rw [e3]
          | false => simp only [cond_false]
theorem call4 {P : Program} {Q : AExit → St → Prop} {K : AV → Heap → Nat → Prop} {g : FuncId} {args args0 : List AV} {h : Heap} {nx : Nat} {a1 : AV} {kk : AV → Heap → Nat → R} {m : List (MK × Int)} {f F : List (List UInt8 × Int)} {L : List Ent} (i j k l : Nat)
    (c : CallOK P g args0 (T4 m f L F) 4 (Out a1 (T4 m f L F) 4)) (hok : okNames nx [i, j, k, l] = true)
    (hij : Nat.beq i j = false) (hik : Nat.beq i k = false) (hil : Nat.beq i l = false) (hjk : Nat.beq j k = false) (hjl : Nat.beq j l = false) (hkl : Nat.beq k l = false)
    (h0 : get h i = some (.map (mE m))) (h1 : get h j = some (.map (fE f))) (h2 : get h k = some (.cells [.map i, .map j])) (h3 : get h l = some (rcO L F)) (hargs : args = renL (rho nx [i, j, k, l]) args0) (ha : Cl a1)
    (hk : holds P Q K (withHeap (updA (updA (updA (updA h i (.map (mE m))) j (.map (fE f))) k (.cells [.map i, .map j])) l (rcO L F)) fun h => kk a1 h nx)) : holds P Q K (.call g args h nx kk) :=
  CallOK.frame (names := [i, j, k, l]) c hok ⟨⟨by simp, by rw [ClO.rc]; exact h3⟩, ⟨by simp, by exact h2⟩, ⟨by simp, by rw [ClO.fE]; exact h1⟩, ⟨by simp, by rw [ClO.mE]; exact h0⟩, trivial⟩ hargs fun a0 h0' m' ⟨e1, e2, e3⟩ => by
    subst e1; subst e2; subst e3
    rw [ha]
    have : mergeH nx [i, j, k, l] h (T4 m f L F) = updA (updA (updA (updA h i (.map (mE m))) j (.map (fE f))) k (.cells [.map i, .map j])) l (rcO L F) := by
      show newH nx [i, j, k, l] (keepH nx [i, j, k, l] (T4 m f L F) h) (T4 m f L F) = _
      rw [keepH_four rfl rfl rfl rfl hij hik hil hjk hjl hkl (ClO.mE m _) (ClO.fE f _) rfl (ClO.rc _ _ _)]
      rfl
    rw [this]
    rw [withHeap_eq] at hk
    exact hk

theorem refPutNo {l : List Ent} {f : List (List UInt8 × Int)} {e : Ent} (hl : l.length ≤ 1000000) (hm : mayE e = false) (hg : e.g.length ≤ 1000000) (ht : e.t.length ≤ 1000000) : CallOK Try.prog 75 [.ptr 0 0, e.av] [(0, rcO l f)] 1 (Out (.int .i64 1) [(0, rcO l f)] 1) := by
  have c := refPut18 (l := l) (f := f) (e := e) hl hg ht
  simp only [hm, Bool.false_eq_true, if_false] at c
  exact c
theorem refGenNo {l : List Ent} {f : List (List UInt8 × Int)} {g : List UInt8} {n : Int} (hf : f.length ≤ 1000000) (hm : mayG g n = false) (hg : g.length ≤ 1000000) : CallOK Try.prog 76 [.ptr 0 0, .str g, .int .i64 n] [(0, rcO l f)] 1 (Out (.int .i64 1) [(0, rcO l f)] 1) := by
  have c := refGen (l := l) (f := f) (g := g) (n := n) hf hg
  simp only [hm, Bool.false_eq_true, if_false] at c
  exact c
theorem len_put {i : Nat} (e : Ent) (L : List Ent) (h : L.length ≤ i) : (putL e L).length ≤ i + 1 := by
  have hb := below_le (mkOf e) L
  unfold putL
  split
  · simp only [List.length_append, List.length_take, List.length_cons, List.length_nil, List.length_drop]; omega
  · simp only [List.length_append, List.length_take, List.length_cons, List.length_nil, List.length_drop]; omega
theorem len_drop {i : Nat} (k : MK) (L : List Ent) (h : L.length ≤ i) : (dropL k L).length ≤ i + 1 := by
  unfold dropL
  split
  · simp only [List.length_append, List.length_take, List.length_drop]; omega
  · omega
theorem len_gen {i : Nat} {F : List (List UInt8 × Int)} {g : List UInt8} {n : Int} (h : F.length ≤ i) : (flPut F g n).length ≤ i + 1 := by
  have := flPut_len F g n
  omega
theorem mayG_nn {g : List UInt8} {n : Int} (h : mayG g n = true) : 0 ≤ n := by
  unfold mayG at h; simp at h; omega
theorem len_plL {i : Nat} {L : List Ent} (p : Option Pl) (h : L.length ≤ i) : (plL L p).length ≤ i + 1 := by
  rcases p with _ | (e | e | _ | _)
  · exact Nat.le_succ_of_le h
  · exact len_put e L h
  · exact len_drop _ L h
  · exact Nat.le_succ_of_le h
  · exact Nat.le_succ_of_le h
theorem len_plG {i : Nat} {F : List (List UInt8 × Int)} (p : Option Pl) (h : F.length ≤ i) : (plG F p).length ≤ i + 1 := by
  rcases p with _ | (_ | _ | _ | _)
  · exact Nat.le_succ_of_le h
  · exact Nat.le_succ_of_le h
  · exact Nat.le_succ_of_le h
  · exact len_gen h
  · exact len_gen h

structure PyI (l : List Stp) where
  i : Nat
  m : List (MK × Int)
  f : List (List UInt8 × Int)
  L : List Ent
  F : List (List UInt8 × Int)
  hi : i ≤ l.length
  relM : RelM L m
  relF : RelF F f
  hL : L.length ≤ i
  hF : F.length ≤ i

theorem lawPlays {l : List Stp} {k : Ent} {most : Int} (hl : l.length ≤ 1000000000000000) (hf : ∀ s ∈ l, s.fine) (hg : k.g.length ≤ 1000000000000000) (ht : k.t.length ≤ 1000000000000000) : CallOK Try.prog 17 [stpsV l, k.av, .int .i64 most] [] 0 Tru := by
  refine callOK Try.call17 Try.func17 Try.ntmps17 rfl ?_
  conv => arg 4; whnf
  refine call0E (small18 hl hf) (ClL.cons (Cl.stpsV _) ClL.nil) (fun x => Cl.bool _) fun b hb => ?_
  (conv => arg 4; whnf); repeat (refine ⟨rfl, ?_⟩; conv => arg 4; whnf)
  refine ⟨fun h => ?_, fun h => ?_⟩
  · (conv => arg 4; whnf); repeat (refine ⟨rfl, ?_⟩; conv => arg 4; whnf)
    refine call0 awake18 (by (repeat' (first | with_reducible assumption | exact ClL.nil | exact Cl.int _ _ | exact Cl.bool _ | exact Cl.bl _ | exact Cl.bs _ | exact Cl.str _ | exact Cl.nils | exact Cl.nilp | exact Cl.rec _ | exact Cl.bat _ | exact Cl.recsV _ | exact Cl.strsV _ | exact Cl.intsV _ | exact Cl.req _ | exact Cl.rsp _ | exact Cl.reqA _ | exact Cl.rspA _ | exact Cl.batsV _ | exact Cl.prsV _ | exact Cl.atsV _ | exact Cl.entA _ _ | exact Cl.ent _ | exact Cl.rr _ _ | exact Cl.foundA _ | exact Cl.getB _ | exact Cl.encA _ | exact Cl.firstA _ | refine ClL.cons ?_ ?_ | refine Cl.tup ?_ | refine Cl.agg ?_ | exact ClO.RO _ _))) (by (repeat' (first | with_reducible assumption | exact ClL.nil | exact Cl.int _ _ | exact Cl.bool _ | exact Cl.bl _ | exact Cl.bs _ | exact Cl.str _ | exact Cl.nils | exact Cl.nilp | exact Cl.rec _ | exact Cl.bat _ | exact Cl.recsV _ | exact Cl.strsV _ | exact Cl.intsV _ | exact Cl.req _ | exact Cl.rsp _ | exact Cl.reqA _ | exact Cl.rspA _ | exact Cl.batsV _ | exact Cl.prsV _ | exact Cl.atsV _ | exact Cl.entA _ _ | exact Cl.ent _ | exact Cl.rr _ _ | exact Cl.foundA _ | exact Cl.getB _ | exact Cl.encA _ | exact Cl.firstA _ | refine ClL.cons ?_ ?_ | refine Cl.tup ?_ | refine Cl.agg ?_ | exact ClO.RO _ _))) ?_
    (conv => arg 4; whnf); repeat (refine ⟨rfl, ?_⟩; conv => arg 4; whnf)
    exact .inl rfl
  · have h : b = true := by simpa using h
    obtain ⟨hl80, hlit⟩ := hb h
    (conv => arg 4; whnf); repeat (refine ⟨rfl, ?_⟩; conv => arg 4; whnf)
    refine holds_args (args' := [_, .sl .none 0 (ints [(k.t.length : Int)])]) ⟨Le.refl _ _, Le.none, trivial⟩ ?_
    refine call0E (sumE (n := (k.g.length : Int)) (x := (k.t.length : Int)) (xs := []) ⟨by omega, by omega⟩ (by intro y hy; simp at hy; omega) (by simp)) (ClL.cons (Cl.int _ _) (ClL.cons (Cl.intsV _) ClL.nil)) (fun x => by (repeat' (first | with_reducible assumption | exact ClL.nil | exact Cl.int _ _ | exact Cl.bool _ | exact Cl.bl _ | exact Cl.bs _ | exact Cl.str _ | exact Cl.nils | exact Cl.nilp | exact Cl.rec _ | exact Cl.bat _ | exact Cl.recsV _ | exact Cl.strsV _ | exact Cl.intsV _ | exact Cl.req _ | exact Cl.rsp _ | exact Cl.reqA _ | exact Cl.rspA _ | exact Cl.batsV _ | exact Cl.prsV _ | exact Cl.atsV _ | exact Cl.entA _ _ | exact Cl.ent _ | exact Cl.rr _ _ | exact Cl.foundA _ | exact Cl.getB _ | exact Cl.encA _ | exact Cl.firstA _ | refine ClL.cons ?_ ?_ | refine Cl.tup ?_ | refine Cl.agg ?_ | exact ClO.RO _ _))) fun v hv => ?_
    (conv => arg 4; whnf); repeat (refine ⟨rfl, ?_⟩; conv => arg 4; whnf)
    refine ⟨fun h2 => ?_, fun h2 => ?_⟩
    · (conv => arg 4; whnf); repeat (refine ⟨rfl, ?_⟩; conv => arg 4; whnf)
      refine call0 awake18 (by (repeat' (first | with_reducible assumption | exact ClL.nil | exact Cl.int _ _ | exact Cl.bool _ | exact Cl.bl _ | exact Cl.bs _ | exact Cl.str _ | exact Cl.nils | exact Cl.nilp | exact Cl.rec _ | exact Cl.bat _ | exact Cl.recsV _ | exact Cl.strsV _ | exact Cl.intsV _ | exact Cl.req _ | exact Cl.rsp _ | exact Cl.reqA _ | exact Cl.rspA _ | exact Cl.batsV _ | exact Cl.prsV _ | exact Cl.atsV _ | exact Cl.entA _ _ | exact Cl.ent _ | exact Cl.rr _ _ | exact Cl.foundA _ | exact Cl.getB _ | exact Cl.encA _ | exact Cl.firstA _ | refine ClL.cons ?_ ?_ | refine Cl.tup ?_ | refine Cl.agg ?_ | exact ClO.RO _ _))) (by (repeat' (first | with_reducible assumption | exact ClL.nil | exact Cl.int _ _ | exact Cl.bool _ | exact Cl.bl _ | exact Cl.bs _ | exact Cl.str _ | exact Cl.nils | exact Cl.nilp | exact Cl.rec _ | exact Cl.bat _ | exact Cl.recsV _ | exact Cl.strsV _ | exact Cl.intsV _ | exact Cl.req _ | exact Cl.rsp _ | exact Cl.reqA _ | exact Cl.rspA _ | exact Cl.batsV _ | exact Cl.prsV _ | exact Cl.atsV _ | exact Cl.entA _ _ | exact Cl.ent _ | exact Cl.rr _ _ | exact Cl.foundA _ | exact Cl.getB _ | exact Cl.encA _ | exact Cl.firstA _ | refine ClL.cons ?_ ?_ | refine Cl.tup ?_ | refine Cl.agg ?_ | exact ClO.RO _ _))) ?_
      (conv => arg 4; whnf); repeat (refine ⟨rfl, ?_⟩; conv => arg 4; whnf)
      exact .inl rfl
    · rw [← Bool.not_eq_true] at h2; simp only [Bool.cond_true_left, Bool.cond_false_right, Bool.or_eq_true, Bool.and_eq_true, Bool.not_eq_true', decide_eq_true_eq, beq_iff_eq, bne_iff_ne, u8s_length, gt_iff_lt, ge_iff_le] at h2
      have hv2 := hv.2.2 (by omega)
      simp only [List.sum_cons, List.sum_nil] at hv2
      have hkl : k.g.length ≤ 200 ∧ k.t.length ≤ 200 := by omega
      (conv => arg 4; whnf); repeat (refine ⟨rfl, ?_⟩; conv => arg 4; whnf)
      refine holds_out [] cmNew rfl trivial rfl ?_
      (conv => arg 4; whnf); repeat (refine ⟨rfl, ?_⟩; conv => arg 4; whnf)
      refine tri_loopG (ι := PyI l) (fun x => ⟨[(9, .int .i64 x.i), (8, .ptr 4 0), (7, .ptr 3 0), (4, .ptr 0 0), (0, stpsV l), (2, .int .i64 most)], [(4, rcO x.L x.F), (3, .cells [.map 1, .map 2]), (2, .map (fE x.f)), (1, .map (mE x.m)), (0, .cells [.str k.g, .str k.t, .int .i64 k.p, .int .i64 k.o])], 5, 186⟩) (fun x => l.length - x.i) ⟨0, [], [], [], [], Nat.zero_le _, RelM.nil, RelF.nil, Nat.le_refl _, Nat.le_refl _⟩ (WkG.of rfl rfl ⟨Le.refl _ _, Le.refl _ _, Le.refl _ _, Le.refl _ _, Le.refl _ _, Le.refl _ _, trivial⟩ ⟨⟨_, rfl, LeL.cons Le.nils (LeL.cons Le.nils (LeL.nil _))⟩, ⟨_, rfl, LeO.refl _ _⟩, ⟨_, rfl, rfl⟩, ⟨_, rfl, rfl⟩, ⟨_, rfl, LeO.refl _ _⟩, trivial⟩ ⟨rfl, rfl, rfl, rfl, Cl.stpsV _ _, rfl, trivial⟩ ⟨⟨by decide, ClO.rc _ _ _⟩, ⟨by decide, rfl⟩, ⟨by decide, ClO.fE _ _⟩, ⟨by decide, ClO.mE _ _⟩, ⟨by decide, rfl⟩, trivial⟩) ?_
      rintro ⟨i, m, f, L, F, hi, relM, relF, hL, hF⟩
      dsimp only
      conv => arg 4; whnf
      refine ⟨fun hlt => ?_, fun hlt => ?_⟩
      · have hlt : i < l.length := by rw [stps_length] at hlt; simp at hlt; omega
        obtain ⟨x, hx⟩ : ∃ x, l[i]? = some x := ⟨_, List.getElem?_eq_getElem hlt⟩
        have hxl := hlit x (List.mem_of_getElem? hx)
        (conv => arg 4; whnf); repeat (refine ⟨rfl, ?_⟩; conv => arg 4; whnf)
        refine ⟨x.av, ⟨by omega, stps_get hx⟩, ?_⟩
        (conv => arg 4; whnf); repeat (refine ⟨rfl, ?_⟩; conv => arg 4; whnf)
        refine ⟨fun hk1 => ?_, fun hk1 => ?_⟩
        · have hk1 : x.kind = 1 := by simpa using hk1
          (conv => arg 4; whnf); repeat (refine ⟨rfl, ?_⟩; conv => arg 4; whnf)
          refine ⟨x.av, ⟨by omega, stps_get hx⟩, ?_⟩; (conv => arg 4; whnf); repeat (refine ⟨rfl, ?_⟩; conv => arg 4; whnf)
          refine ⟨x.av, ⟨by omega, stps_get hx⟩, ?_⟩; (conv => arg 4; whnf); repeat (refine ⟨rfl, ?_⟩; conv => arg 4; whnf)
          refine call0 (made18 (e := x.e)) (ClL.cons (Cl.ent x.e) ClL.nil) (Cl.ent x.e) ?_
          (conv => arg 4; whnf); repeat (refine ⟨rfl, ?_⟩; conv => arg 4; whnf)
          by_cases hm : mayE x.e = true
          · skip
            refine callTab 1 2 3 (cmPutOk (m := m) (f := f) hm) rfl rfl rfl rfl rfl rfl rfl (argsT (Cl.ent x.e)) rfl ?_
            (conv => arg 4; whnf); repeat (refine ⟨rfl, ?_⟩; conv => arg 4; whnf)
            refine call1 4 (refPutOk (l := L) (f := F) (e := x.e) (by omega) hm) rfl rfl (ClO.rc _ _) (ClO.rc _ _) (argsO (Cl.ent x.e)) (Cl.int _ _) ?_
            (conv => arg 4; whnf); repeat (refine ⟨rfl, ?_⟩; conv => arg 4; whnf)
            refine ⟨fun h => absurd h (by first | (simp; done) | (simp [u8s]; done)), fun _ => ?_⟩
            conv => arg 4; whnf
            refine ⟨x.av, ⟨by omega, stps_get hx⟩, ?_⟩; (conv => arg 4; whnf); repeat (refine ⟨rfl, ?_⟩; conv => arg 4; whnf)
            refine ⟨x.av, ⟨by omega, stps_get hx⟩, ?_⟩; (conv => arg 4; whnf); repeat (refine ⟨rfl, ?_⟩; conv => arg 4; whnf)
            refine callTab 1 2 3 (cmFloor (m := (setM m (mkOf x.e) x.e.o)) (f := f) (g := x.e.g)) rfl rfl rfl rfl rfl rfl rfl rfl rfl ?_
            (conv => arg 4; whnf); repeat (refine ⟨rfl, ?_⟩; conv => arg 4; whnf)
            refine call1 4 (refFloorOf (l := (putL x.e L)) (f := F) (g := x.e.g) (by have := (Nat.le_succ_of_le hF); omega)) rfl rfl (ClO.rc _ _) (ClO.rc _ _) rfl (Cl.int _ _) ?_
            (conv => arg 4; whnf); repeat (refine ⟨rfl, ?_⟩; conv => arg 4; whnf)
            refine ⟨fun h' => absurd h' (by simp [(relF).look]), fun _ => ?_⟩
            (conv => arg 4; whnf); repeat (refine ⟨rfl, ?_⟩; conv => arg 4; whnf)
            refine call4 1 2 3 4 (shows (most := 1000) (relM.put x.e) (by have := (len_put x.e L hL); omega) (by decide)) rfl rfl rfl rfl rfl rfl rfl rfl rfl rfl rfl rfl (Cl.bool _) ?_
            (conv => arg 4; whnf); repeat (refine ⟨rfl, ?_⟩; conv => arg 4; whnf)
            refine ⟨fun h => absurd h (by first | (simp; done) | (simp [u8s]; done)), fun _ => ?_⟩
            conv => arg 4; whnf
            exact ⟨⟨i + 1, (setM m (mkOf x.e) x.e.o), f, (putL x.e L), F, hlt, (relM.put x.e), relF, (len_put x.e L hL), (Nat.le_succ_of_le hF)⟩, by show l.length - (i + 1) < l.length - i; omega, WkG.of rfl rfl ⟨Le.of_eq (succ18 (by omega)), Le.refl _ _, Le.refl _ _, Le.refl _ _, Le.refl _ _, Le.refl _ _, trivial⟩ ⟨⟨_, rfl, LeO.refl _ _⟩, ⟨_, rfl, LeO.refl _ _⟩, ⟨_, rfl, LeO.refl _ _⟩, ⟨_, rfl, LeO.refl _ _⟩, ⟨_, rfl, LeO.refl _ _⟩, trivial⟩ ⟨rfl, rfl, rfl, rfl, Cl.stpsV _ _, rfl, trivial⟩ ⟨⟨by decide, ClO.rc _ _ _⟩, ⟨by decide, rfl⟩, ⟨by decide, ClO.fE _ _⟩, ⟨by decide, ClO.mE _ _⟩, ⟨by decide, rfl⟩, trivial⟩⟩
          · have hm : mayE x.e = false := by simpa using hm
            refine callTab 1 2 3 (cmPutNo (m := m) (f := f) hm (by have := hxl.1; omega) (by have := hxl.2; omega)) rfl rfl rfl rfl rfl rfl rfl (argsT (Cl.ent x.e)) rfl ?_
            (conv => arg 4; whnf); repeat (refine ⟨rfl, ?_⟩; conv => arg 4; whnf)
            refine call1 4 (refPutNo (l := L) (f := F) (e := x.e) (by omega) hm (by have := hxl.1; omega) (by have := hxl.2; omega)) rfl rfl (ClO.rc _ _) (ClO.rc _ _) (argsO (Cl.ent x.e)) (Cl.int _ _) ?_
            (conv => arg 4; whnf); repeat (refine ⟨rfl, ?_⟩; conv => arg 4; whnf)
            refine ⟨fun h => absurd h (by first | (simp; done) | (simp [u8s]; done)), fun _ => ?_⟩
            conv => arg 4; whnf
            refine ⟨x.av, ⟨by omega, stps_get hx⟩, ?_⟩; (conv => arg 4; whnf); repeat (refine ⟨rfl, ?_⟩; conv => arg 4; whnf)
            refine ⟨x.av, ⟨by omega, stps_get hx⟩, ?_⟩; (conv => arg 4; whnf); repeat (refine ⟨rfl, ?_⟩; conv => arg 4; whnf)
            refine callTab 1 2 3 (cmFloor (m := m) (f := f) (g := x.e.g)) rfl rfl rfl rfl rfl rfl rfl rfl rfl ?_
            (conv => arg 4; whnf); repeat (refine ⟨rfl, ?_⟩; conv => arg 4; whnf)
            refine call1 4 (refFloorOf (l := L) (f := F) (g := x.e.g) (by have := (Nat.le_succ_of_le hF); omega)) rfl rfl (ClO.rc _ _) (ClO.rc _ _) rfl (Cl.int _ _) ?_
            (conv => arg 4; whnf); repeat (refine ⟨rfl, ?_⟩; conv => arg 4; whnf)
            refine ⟨fun h' => absurd h' (by simp [(relF).look]), fun _ => ?_⟩
            (conv => arg 4; whnf); repeat (refine ⟨rfl, ?_⟩; conv => arg 4; whnf)
            refine call4 1 2 3 4 (shows (most := 1000) relM (by have := (Nat.le_succ_of_le hL); omega) (by decide)) rfl rfl rfl rfl rfl rfl rfl rfl rfl rfl rfl rfl (Cl.bool _) ?_
            (conv => arg 4; whnf); repeat (refine ⟨rfl, ?_⟩; conv => arg 4; whnf)
            refine ⟨fun h => absurd h (by first | (simp; done) | (simp [u8s]; done)), fun _ => ?_⟩
            conv => arg 4; whnf
            exact ⟨⟨i + 1, m, f, L, F, hlt, relM, relF, (Nat.le_succ_of_le hL), (Nat.le_succ_of_le hF)⟩, by show l.length - (i + 1) < l.length - i; omega, WkG.of rfl rfl ⟨Le.of_eq (succ18 (by omega)), Le.refl _ _, Le.refl _ _, Le.refl _ _, Le.refl _ _, Le.refl _ _, trivial⟩ ⟨⟨_, rfl, LeO.refl _ _⟩, ⟨_, rfl, LeO.refl _ _⟩, ⟨_, rfl, LeO.refl _ _⟩, ⟨_, rfl, LeO.refl _ _⟩, ⟨_, rfl, LeO.refl _ _⟩, trivial⟩ ⟨rfl, rfl, rfl, rfl, Cl.stpsV _ _, rfl, trivial⟩ ⟨⟨by decide, ClO.rc _ _ _⟩, ⟨by decide, rfl⟩, ⟨by decide, ClO.fE _ _⟩, ⟨by decide, ClO.mE _ _⟩, ⟨by decide, rfl⟩, trivial⟩⟩
        · have hk1 : x.kind ≠ 1 := by simpa using hk1
          (conv => arg 4; whnf); repeat (refine ⟨rfl, ?_⟩; conv => arg 4; whnf)
          refine ⟨fun hk2 => ?_, fun hk2 => ?_⟩
          · have hk2 : x.kind = 2 := by simpa using hk2
            (conv => arg 4; whnf); repeat (refine ⟨rfl, ?_⟩; conv => arg 4; whnf)
            refine ⟨x.av, ⟨by omega, stps_get hx⟩, ?_⟩; (conv => arg 4; whnf); repeat (refine ⟨rfl, ?_⟩; conv => arg 4; whnf)
            refine ⟨x.av, ⟨by omega, stps_get hx⟩, ?_⟩; (conv => arg 4; whnf); repeat (refine ⟨rfl, ?_⟩; conv => arg 4; whnf)
            refine ⟨x.av, ⟨by omega, stps_get hx⟩, ?_⟩; (conv => arg 4; whnf); repeat (refine ⟨rfl, ?_⟩; conv => arg 4; whnf)
            refine ⟨x.av, ⟨by omega, stps_get hx⟩, ?_⟩; (conv => arg 4; whnf); repeat (refine ⟨rfl, ?_⟩; conv => arg 4; whnf)
            by_cases hm : mayG x.e.g x.n = true
            · skip
              refine callTab 1 2 3 (cmGenOk (m := m) (f := f) hm) rfl rfl rfl rfl rfl rfl rfl rfl rfl ?_
              (conv => arg 4; whnf); repeat (refine ⟨rfl, ?_⟩; conv => arg 4; whnf)
              refine call1 4 (refGenOk (l := L) (f := F) (g := x.e.g) (n := x.n) (by omega) hm) rfl rfl (ClO.rc _ _) (ClO.rc _ _) rfl (Cl.int _ _) ?_
              (conv => arg 4; whnf); repeat (refine ⟨rfl, ?_⟩; conv => arg 4; whnf)
              refine ⟨fun h => absurd h (by first | (simp; done) | (simp [u8s]; done)), fun _ => ?_⟩
              conv => arg 4; whnf
              refine ⟨x.av, ⟨by omega, stps_get hx⟩, ?_⟩; (conv => arg 4; whnf); repeat (refine ⟨rfl, ?_⟩; conv => arg 4; whnf)
              refine ⟨x.av, ⟨by omega, stps_get hx⟩, ?_⟩; (conv => arg 4; whnf); repeat (refine ⟨rfl, ?_⟩; conv => arg 4; whnf)
              refine callTab 1 2 3 (cmFloor (m := m) (f := (setM f x.e.g (max ((findM f x.e.g).getD 0) x.n))) (g := x.e.g)) rfl rfl rfl rfl rfl rfl rfl rfl rfl ?_
              (conv => arg 4; whnf); repeat (refine ⟨rfl, ?_⟩; conv => arg 4; whnf)
              refine call1 4 (refFloorOf (l := L) (f := (flPut F x.e.g (max x.n (flOf F x.e.g)))) (g := x.e.g) (by have := (len_gen (g := x.e.g) (n := max x.n (flOf F x.e.g)) hF); omega)) rfl rfl (ClO.rc _ _) (ClO.rc _ _) rfl (Cl.int _ _) ?_
              (conv => arg 4; whnf); repeat (refine ⟨rfl, ?_⟩; conv => arg 4; whnf)
              refine ⟨fun h' => absurd h' (by simp [((relF.gen x.e.g x.n (mayG_nn hm))).look]), fun _ => ?_⟩
              (conv => arg 4; whnf); repeat (refine ⟨rfl, ?_⟩; conv => arg 4; whnf)
              refine call4 1 2 3 4 (shows (most := 1000) relM (by have := (Nat.le_succ_of_le hL); omega) (by decide)) rfl rfl rfl rfl rfl rfl rfl rfl rfl rfl rfl rfl (Cl.bool _) ?_
              (conv => arg 4; whnf); repeat (refine ⟨rfl, ?_⟩; conv => arg 4; whnf)
              refine ⟨fun h => absurd h (by first | (simp; done) | (simp [u8s]; done)), fun _ => ?_⟩
              conv => arg 4; whnf
              exact ⟨⟨i + 1, m, (setM f x.e.g (max ((findM f x.e.g).getD 0) x.n)), L, (flPut F x.e.g (max x.n (flOf F x.e.g))), hlt, relM, (relF.gen x.e.g x.n (mayG_nn hm)), (Nat.le_succ_of_le hL), (len_gen (g := x.e.g) (n := max x.n (flOf F x.e.g)) hF)⟩, by show l.length - (i + 1) < l.length - i; omega, WkG.of rfl rfl ⟨Le.of_eq (succ18 (by omega)), Le.refl _ _, Le.refl _ _, Le.refl _ _, Le.refl _ _, Le.refl _ _, trivial⟩ ⟨⟨_, rfl, LeO.refl _ _⟩, ⟨_, rfl, LeO.refl _ _⟩, ⟨_, rfl, LeO.refl _ _⟩, ⟨_, rfl, LeO.refl _ _⟩, ⟨_, rfl, LeO.refl _ _⟩, trivial⟩ ⟨rfl, rfl, rfl, rfl, Cl.stpsV _ _, rfl, trivial⟩ ⟨⟨by decide, ClO.rc _ _ _⟩, ⟨by decide, rfl⟩, ⟨by decide, ClO.fE _ _⟩, ⟨by decide, ClO.mE _ _⟩, ⟨by decide, rfl⟩, trivial⟩⟩
            · have hm : mayG x.e.g x.n = false := by simpa using hm
              refine callTab 1 2 3 (cmGenNo (m := m) (f := f) hm (by have := hxl.1; omega)) rfl rfl rfl rfl rfl rfl rfl rfl rfl ?_
              (conv => arg 4; whnf); repeat (refine ⟨rfl, ?_⟩; conv => arg 4; whnf)
              refine call1 4 (refGenNo (l := L) (f := F) (g := x.e.g) (n := x.n) (by omega) hm (by have := hxl.1; omega)) rfl rfl (ClO.rc _ _) (ClO.rc _ _) rfl (Cl.int _ _) ?_
              (conv => arg 4; whnf); repeat (refine ⟨rfl, ?_⟩; conv => arg 4; whnf)
              refine ⟨fun h => absurd h (by first | (simp; done) | (simp [u8s]; done)), fun _ => ?_⟩
              conv => arg 4; whnf
              refine ⟨x.av, ⟨by omega, stps_get hx⟩, ?_⟩; (conv => arg 4; whnf); repeat (refine ⟨rfl, ?_⟩; conv => arg 4; whnf)
              refine ⟨x.av, ⟨by omega, stps_get hx⟩, ?_⟩; (conv => arg 4; whnf); repeat (refine ⟨rfl, ?_⟩; conv => arg 4; whnf)
              refine callTab 1 2 3 (cmFloor (m := m) (f := f) (g := x.e.g)) rfl rfl rfl rfl rfl rfl rfl rfl rfl ?_
              (conv => arg 4; whnf); repeat (refine ⟨rfl, ?_⟩; conv => arg 4; whnf)
              refine call1 4 (refFloorOf (l := L) (f := F) (g := x.e.g) (by have := (Nat.le_succ_of_le hF); omega)) rfl rfl (ClO.rc _ _) (ClO.rc _ _) rfl (Cl.int _ _) ?_
              (conv => arg 4; whnf); repeat (refine ⟨rfl, ?_⟩; conv => arg 4; whnf)
              refine ⟨fun h' => absurd h' (by simp [(relF).look]), fun _ => ?_⟩
              (conv => arg 4; whnf); repeat (refine ⟨rfl, ?_⟩; conv => arg 4; whnf)
              refine call4 1 2 3 4 (shows (most := 1000) relM (by have := (Nat.le_succ_of_le hL); omega) (by decide)) rfl rfl rfl rfl rfl rfl rfl rfl rfl rfl rfl rfl (Cl.bool _) ?_
              (conv => arg 4; whnf); repeat (refine ⟨rfl, ?_⟩; conv => arg 4; whnf)
              refine ⟨fun h => absurd h (by first | (simp; done) | (simp [u8s]; done)), fun _ => ?_⟩
              conv => arg 4; whnf
              exact ⟨⟨i + 1, m, f, L, F, hlt, relM, relF, (Nat.le_succ_of_le hL), (Nat.le_succ_of_le hF)⟩, by show l.length - (i + 1) < l.length - i; omega, WkG.of rfl rfl ⟨Le.of_eq (succ18 (by omega)), Le.refl _ _, Le.refl _ _, Le.refl _ _, Le.refl _ _, Le.refl _ _, trivial⟩ ⟨⟨_, rfl, LeO.refl _ _⟩, ⟨_, rfl, LeO.refl _ _⟩, ⟨_, rfl, LeO.refl _ _⟩, ⟨_, rfl, LeO.refl _ _⟩, ⟨_, rfl, LeO.refl _ _⟩, trivial⟩ ⟨rfl, rfl, rfl, rfl, Cl.stpsV _ _, rfl, trivial⟩ ⟨⟨by decide, ClO.rc _ _ _⟩, ⟨by decide, rfl⟩, ⟨by decide, ClO.fE _ _⟩, ⟨by decide, ClO.mE _ _⟩, ⟨by decide, rfl⟩, trivial⟩⟩
          · have hk2 : x.kind ≠ 2 := by simpa using hk2
            (conv => arg 4; whnf); repeat (refine ⟨rfl, ?_⟩; conv => arg 4; whnf)
            refine ⟨fun hk3 => ?_, fun hk3 => ?_⟩
            · have hk3 : x.kind = 3 := by simpa using hk3
              (conv => arg 4; whnf); repeat (refine ⟨rfl, ?_⟩; conv => arg 4; whnf)
              refine ⟨x.av, ⟨by omega, stps_get hx⟩, ?_⟩; (conv => arg 4; whnf); repeat (refine ⟨rfl, ?_⟩; conv => arg 4; whnf)
              refine ⟨x.av, ⟨by omega, stps_get hx⟩, ?_⟩; (conv => arg 4; whnf); repeat (refine ⟨rfl, ?_⟩; conv => arg 4; whnf)
              refine callTab 1 2 3 (cmApply (m := m) (f := f) (r := x.r) (by have := hxl.2; omega) (by have := hxl.2; omega)) rfl rfl rfl rfl rfl rfl rfl (argsT (Cl.rec x.r)) rfl ?_
              (conv => arg 4; whnf); repeat (refine ⟨rfl, ?_⟩; conv => arg 4; whnf)
              refine call1 4 (refApply (l := L) (f := F) (r := x.r) (by omega) (by omega) (by have := hxl.2; omega) (by have := hxl.2; omega)) rfl rfl (ClO.rc _ _) (ClO.rc _ _) (argsO (Cl.rec x.r)) (Cl.int _ _) ?_
              (conv => arg 4; whnf); repeat (refine ⟨rfl, ?_⟩; conv => arg 4; whnf)
              refine ⟨fun h' => absurd h' (by simp), fun _ => ?_⟩
              (conv => arg 4; whnf); repeat (refine ⟨rfl, ?_⟩; conv => arg 4; whnf)
              refine ⟨x.av, ⟨by omega, stps_get hx⟩, ?_⟩; (conv => arg 4; whnf); repeat (refine ⟨rfl, ?_⟩; conv => arg 4; whnf)
              refine ⟨x.av, ⟨by omega, stps_get hx⟩, ?_⟩; (conv => arg 4; whnf); repeat (refine ⟨rfl, ?_⟩; conv => arg 4; whnf)
              refine callTab 1 2 3 (cmFloor (m := (plM m (parse x.r))) (f := (plF f (parse x.r))) (g := x.e.g)) rfl rfl rfl rfl rfl rfl rfl rfl rfl ?_
              (conv => arg 4; whnf); repeat (refine ⟨rfl, ?_⟩; conv => arg 4; whnf)
              refine call1 4 (refFloorOf (l := (plL L (parse x.r))) (f := (plG F (parse x.r))) (g := x.e.g) (by have := (len_plG (parse x.r) hF); omega)) rfl rfl (ClO.rc _ _) (ClO.rc _ _) rfl (Cl.int _ _) ?_
              (conv => arg 4; whnf); repeat (refine ⟨rfl, ?_⟩; conv => arg 4; whnf)
              refine ⟨fun h' => absurd h' (by simp [((relF.pl fun _ _ => parse_gen)).look]), fun _ => ?_⟩
              (conv => arg 4; whnf); repeat (refine ⟨rfl, ?_⟩; conv => arg 4; whnf)
              refine call4 1 2 3 4 (shows (most := 1000) (relM.pl (parse x.r)) (by have := (len_plL (parse x.r) hL); omega) (by decide)) rfl rfl rfl rfl rfl rfl rfl rfl rfl rfl rfl rfl (Cl.bool _) ?_
              (conv => arg 4; whnf); repeat (refine ⟨rfl, ?_⟩; conv => arg 4; whnf)
              refine ⟨fun h => absurd h (by first | (simp; done) | (simp [u8s]; done)), fun _ => ?_⟩
              conv => arg 4; whnf
              exact ⟨⟨i + 1, (plM m (parse x.r)), (plF f (parse x.r)), (plL L (parse x.r)), (plG F (parse x.r)), hlt, (relM.pl (parse x.r)), (relF.pl fun _ _ => parse_gen), (len_plL (parse x.r) hL), (len_plG (parse x.r) hF)⟩, by show l.length - (i + 1) < l.length - i; omega, WkG.of rfl rfl ⟨Le.of_eq (succ18 (by omega)), Le.refl _ _, Le.refl _ _, Le.refl _ _, Le.refl _ _, Le.refl _ _, trivial⟩ ⟨⟨_, rfl, LeO.refl _ _⟩, ⟨_, rfl, LeO.refl _ _⟩, ⟨_, rfl, LeO.refl _ _⟩, ⟨_, rfl, LeO.refl _ _⟩, ⟨_, rfl, LeO.refl _ _⟩, trivial⟩ ⟨rfl, rfl, rfl, rfl, Cl.stpsV _ _, rfl, trivial⟩ ⟨⟨by decide, ClO.rc _ _ _⟩, ⟨by decide, rfl⟩, ⟨by decide, ClO.fE _ _⟩, ⟨by decide, ClO.mE _ _⟩, ⟨by decide, rfl⟩, trivial⟩⟩
            · have hk3 : x.kind ≠ 3 := by simpa using hk3
              (conv => arg 4; whnf); repeat (refine ⟨rfl, ?_⟩; conv => arg 4; whnf)
              refine ⟨x.av, ⟨by omega, stps_get hx⟩, ?_⟩; (conv => arg 4; whnf); repeat (refine ⟨rfl, ?_⟩; conv => arg 4; whnf)
              refine ⟨x.av, ⟨by omega, stps_get hx⟩, ?_⟩; (conv => arg 4; whnf); repeat (refine ⟨rfl, ?_⟩; conv => arg 4; whnf)
              refine callTab 1 2 3 (cmFloor (m := m) (f := f) (g := x.e.g)) rfl rfl rfl rfl rfl rfl rfl rfl rfl ?_
              (conv => arg 4; whnf); repeat (refine ⟨rfl, ?_⟩; conv => arg 4; whnf)
              refine call1 4 (refFloorOf (l := L) (f := F) (g := x.e.g) (by have := (Nat.le_succ_of_le hF); omega)) rfl rfl (ClO.rc _ _) (ClO.rc _ _) rfl (Cl.int _ _) ?_
              (conv => arg 4; whnf); repeat (refine ⟨rfl, ?_⟩; conv => arg 4; whnf)
              refine ⟨fun h' => absurd h' (by simp [(relF).look]), fun _ => ?_⟩
              (conv => arg 4; whnf); repeat (refine ⟨rfl, ?_⟩; conv => arg 4; whnf)
              refine call4 1 2 3 4 (shows (most := 1000) relM (by have := (Nat.le_succ_of_le hL); omega) (by decide)) rfl rfl rfl rfl rfl rfl rfl rfl rfl rfl rfl rfl (Cl.bool _) ?_
              (conv => arg 4; whnf); repeat (refine ⟨rfl, ?_⟩; conv => arg 4; whnf)
              refine ⟨fun h => absurd h (by first | (simp; done) | (simp [u8s]; done)), fun _ => ?_⟩
              conv => arg 4; whnf
              exact ⟨⟨i + 1, m, f, L, F, hlt, relM, relF, (Nat.le_succ_of_le hL), (Nat.le_succ_of_le hF)⟩, by show l.length - (i + 1) < l.length - i; omega, WkG.of rfl rfl ⟨Le.of_eq (succ18 (by omega)), Le.refl _ _, Le.refl _ _, Le.refl _ _, Le.refl _ _, Le.refl _ _, trivial⟩ ⟨⟨_, rfl, LeO.refl _ _⟩, ⟨_, rfl, LeO.refl _ _⟩, ⟨_, rfl, LeO.refl _ _⟩, ⟨_, rfl, LeO.refl _ _⟩, ⟨_, rfl, LeO.refl _ _⟩, trivial⟩ ⟨rfl, rfl, rfl, rfl, Cl.stpsV _ _, rfl, trivial⟩ ⟨⟨by decide, ClO.rc _ _ _⟩, ⟨by decide, rfl⟩, ⟨by decide, ClO.fE _ _⟩, ⟨by decide, ClO.mE _ _⟩, ⟨by decide, rfl⟩, trivial⟩⟩
      · have hlt : i = l.length := by rw [stps_length] at hlt; simp at hlt; omega
        (conv => arg 4; whnf); repeat (refine ⟨rfl, ?_⟩; conv => arg 4; whnf)
        refine fin_exit ?_
        show holds _ _ _ _
        conv => arg 4; whnf
        refine callTab 1 2 3 (cmGet (m := m) (f := f) (g := k.g) (t := k.t) (p := k.p)) rfl rfl rfl rfl rfl rfl rfl rfl rfl ?_
        (conv => arg 4; whnf); repeat (refine ⟨rfl, ?_⟩; conv => arg 4; whnf)
        refine call1 4 (refGet18 (l := L) (f := F) (g := k.g) (t := k.t) (p := k.p) (by omega) relM.srt) rfl rfl (ClO.rc _ _) (ClO.rc _ _) rfl (Cl.tup (ClL.cons (Cl.int _ _) (ClL.cons (Cl.bool _) ClL.nil))) ?_
        (conv => arg 4; whnf); repeat (refine ⟨rfl, ?_⟩; conv => arg 4; whnf)
        refine ⟨fun _ => ?_, fun h' => absurd h' (by rw [relM.look]; simp)⟩
        (conv => arg 4; whnf); repeat (refine ⟨rfl, ?_⟩; conv => arg 4; whnf)
        refine ⟨fun _ => ?_, fun h' => absurd h' (by rw [relM.look]; simp)⟩
        (conv => arg 4; whnf); repeat (refine ⟨rfl, ?_⟩; conv => arg 4; whnf)
        refine callTab 1 2 3 (cmFloor (m := m) (f := f) (g := k.g)) rfl rfl rfl rfl rfl rfl rfl rfl rfl ?_
        (conv => arg 4; whnf); repeat (refine ⟨rfl, ?_⟩; conv => arg 4; whnf)
        refine call1 4 (refFloorOf (l := L) (f := F) (g := k.g) (by omega)) rfl rfl (ClO.rc _ _) (ClO.rc _ _) rfl (Cl.int _ _) ?_
        (conv => arg 4; whnf); repeat (refine ⟨rfl, ?_⟩; conv => arg 4; whnf)
        refine ⟨fun _ => ?_, fun h' => absurd h' (by simp [relF.look])⟩
        (conv => arg 4; whnf); repeat (refine ⟨rfl, ?_⟩; conv => arg 4; whnf)
        refine call4 1 2 3 4 (shows (most := most) relM (by omega) (by omega)) rfl rfl rfl rfl rfl rfl rfl rfl rfl rfl rfl rfl (Cl.bool _) ?_
        (conv => arg 4; whnf); repeat (refine ⟨rfl, ?_⟩; conv => arg 4; whnf)
        refine ⟨fun _ => ?_, fun h' => absurd h' (by decide)⟩
        (conv => arg 4; whnf); repeat (refine ⟨rfl, ?_⟩; conv => arg 4; whnf)
        refine call0 awake18 (by (repeat' (first | with_reducible assumption | exact ClL.nil | exact Cl.int _ _ | exact Cl.bool _ | exact Cl.bl _ | exact Cl.bs _ | exact Cl.str _ | exact Cl.nils | exact Cl.nilp | exact Cl.rec _ | exact Cl.bat _ | exact Cl.recsV _ | exact Cl.strsV _ | exact Cl.intsV _ | exact Cl.req _ | exact Cl.rsp _ | exact Cl.reqA _ | exact Cl.rspA _ | exact Cl.batsV _ | exact Cl.prsV _ | exact Cl.atsV _ | exact Cl.entA _ _ | exact Cl.ent _ | exact Cl.rr _ _ | exact Cl.foundA _ | exact Cl.getB _ | exact Cl.encA _ | exact Cl.firstA _ | refine ClL.cons ?_ ?_ | refine Cl.tup ?_ | refine Cl.agg ?_ | exact ClO.RO _ _))) (by (repeat' (first | with_reducible assumption | exact ClL.nil | exact Cl.int _ _ | exact Cl.bool _ | exact Cl.bl _ | exact Cl.bs _ | exact Cl.str _ | exact Cl.nils | exact Cl.nilp | exact Cl.rec _ | exact Cl.bat _ | exact Cl.recsV _ | exact Cl.strsV _ | exact Cl.intsV _ | exact Cl.req _ | exact Cl.rsp _ | exact Cl.reqA _ | exact Cl.rspA _ | exact Cl.batsV _ | exact Cl.prsV _ | exact Cl.atsV _ | exact Cl.entA _ _ | exact Cl.ent _ | exact Cl.rr _ _ | exact Cl.foundA _ | exact Cl.getB _ | exact Cl.encA _ | exact Cl.firstA _ | refine ClL.cons ?_ ?_ | refine Cl.tup ?_ | refine Cl.agg ?_ | exact ClO.RO _ _))) ?_
        (conv => arg 4; whnf); repeat (refine ⟨rfl, ?_⟩; conv => arg 4; whnf)
        exact .inl rfl
end Go.Proofs.Ytlifbhcmihnkpaa.Cm

namespace Go.Proofs.Ytlifbhcmihnkpaa.Cm
set_option maxRecDepth 100000
set_option maxHeartbeats 80000000
open Go.Sym

theorem inv0 (W : World) : Inv (F0 W) V0 [] W :=
  ⟨fun b o x h => h, fun id o hg => by simp [Go.Sym.get] at hg, fun id o b off hg => by simp [Go.Sym.get] at hg, fun id id' o o' b hg => by simp [Go.Sym.get] at hg⟩
theorem str_lt {s : List UInt8} (h : s.length ≤ reachBytes) : s.length ≤ 1000000000000000 := by
  unfold reachBytes at h
  omega
theorem ent_of {n : Nat} {l : List AV} (g : Sym.Good Try.prog n 57 l) : ∃ e : Ent, (e.g.length ≤ 1000000000000000 ∧ e.t.length ≤ 1000000000000000) ∧ Le [] (.agg l) e.av := by
  obtain ⟨m, g⟩ := Sym.Good.struct Try.underlying57 (by kernel_rfl) g
  obtain ⟨_, _, rfl, g1, _, _, rfl, g2, _, _, rfl, g3, _, _, rfl, g4, rfl⟩ := g
  obtain ⟨x1, rfl, w1⟩ := Sym.Good.str Try.underlying9 g1
  obtain ⟨x2, rfl, w2⟩ := Sym.Good.str Try.underlying9 g2
  obtain ⟨x3, rfl, w3⟩ := Sym.Good.int Try.underlying3 g3
  obtain ⟨x4, rfl, w4⟩ := Sym.Good.int Try.underlying3 g4
  exact ⟨⟨x1, x2, x3, x4⟩, ⟨str_lt w1, str_lt w2⟩, Le.refl _ _⟩
end Go.Proofs.Ytlifbhcmihnkpaa.Cm

namespace Go.Proofs.Ytlifbhcmihnkpaa.Cm
set_option maxRecDepth 100000
set_option maxHeartbeats 80000000
open Go.Sym

theorem bytes_lt {els : List AV} {n : Nat} (h : els.length * n ≤ reachBytes) (hn : 1 ≤ n) : els.length ≤ 1000000000000000 := by
  have : els.length * 1 ≤ els.length * n := Nat.mul_le_mul_left _ hn
  unfold reachBytes at h
  omega
theorem stp_of {n : Nat} {l : List AV} (g : Sym.Good Try.prog n 85 l) : ∃ s : Stp, s.fine ∧ Le [] (.agg l) s.av := by
  obtain ⟨m, g⟩ := Sym.Good.struct Try.underlying85 (by kernel_rfl) g
  obtain ⟨_, _, rfl, g1, _, _, rfl, g2, _, _, rfl, g3, _, _, rfl, g4, rfl⟩ := g
  obtain ⟨x1, rfl, w1⟩ := Sym.Good.int Try.underlying3 g1
  obtain ⟨m2, g2⟩ := Sym.Good.struct Try.underlying57 (by kernel_rfl) g2
  obtain ⟨_, _, rfl, h1, _, _, rfl, h2, _, _, rfl, h3, _, _, rfl, h4, rfl⟩ := g2
  obtain ⟨e1, rfl, v1⟩ := Sym.Good.str Try.underlying9 h1
  obtain ⟨e2, rfl, v2⟩ := Sym.Good.str Try.underlying9 h2
  obtain ⟨e3, rfl, v3⟩ := Sym.Good.int Try.underlying3 h3
  obtain ⟨e4, rfl, v4⟩ := Sym.Good.int Try.underlying3 h4
  obtain ⟨x3, rfl, w3⟩ := Sym.Good.int Try.underlying3 g3
  obtain ⟨m4, g4⟩ := Sym.Good.struct Try.underlying60 (by kernel_rfl) g4
  obtain ⟨_, _, rfl, k1, _, _, rfl, k2, _, _, rfl, k3, _, _, rfl, k4, _, _, rfl, k5, _, _, rfl, k6, rfl⟩ := g4
  obtain ⟨y1, rfl, u1⟩ := Sym.Good.int Try.underlying3 k1
  obtain ⟨y2, rfl, u2⟩ := Sym.Good.int Try.underlying3 k2
  obtain ⟨y3, rfl⟩ := Sym.Good.bool Try.underlying4 k3
  obtain ⟨s4, rfl, z4, q4⟩ := Sym.Good.slice (k := 0) Try.underlying25 (by kernel_rfl) (by kernel_rfl) k4
  obtain ⟨y5, rfl⟩ := Sym.Good.bool Try.underlying4 k5
  obtain ⟨s6, rfl, z6, q6⟩ := Sym.Good.slice (k := 0) Try.underlying25 (by kernel_rfl) (by kernel_rfl) k6
  have z4 := bytes_lt z4 (of_decide_eq_true (by kernel_rfl))
  have z6 := bytes_lt z6 (of_decide_eq_true (by kernel_rfl))
  obtain ⟨l4, rfl⟩ := bytes_of Try.underlying5 q4
  obtain ⟨l6, rfl⟩ := bytes_of Try.underlying5 q6
  rw [u8s_length] at z4 z6
  refine ⟨⟨x1, ⟨e1, e2, e3, e4⟩, x3, ⟨y1, y2, y3, l4, y5, l6⟩⟩, ⟨str_lt v1, str_lt v2, z4, z6⟩, ?_⟩
  exact Le.agg (LeL.cons (Le.refl _ _) (LeL.cons (Le.refl _ _) (LeL.cons (Le.refl _ _) (LeL.cons (Le.refl _ _) (LeL.cons (Le.refl _ _) (LeL.cons (Le.refl _ _) (LeL.cons (Le.refl _ _) (LeL.cons (Le.refl _ _) (LeL.cons Le.bl (LeL.cons (Le.refl _ _) (LeL.cons Le.bl (LeL.cons (Le.refl _ _) (LeL.nil _)))))))))))))
theorem stps_of {els : List AV} (h : ∀ x ∈ els, ∃ m cs, isElem 12 x cs ∧ Sym.Good Try.prog m 85 cs) : ∃ l : List Stp, l.length = els.length ∧ (∀ s ∈ l, s.fine) ∧ LeL [] els (stpsL l) := by
  induction els with
  | nil => exact ⟨[], rfl, by simp, LeL.refl _ _⟩
  | cons x els ih =>
    obtain ⟨l, hl, hb, hle⟩ := ih fun y hy => h y (List.mem_cons_of_mem _ hy)
    obtain ⟨m, cs, he, g⟩ := h x List.mem_cons_self
    obtain ⟨b, hb0, hle0⟩ := stp_of g
    simp only [isElem] at he
    rw [if_neg (by decide)] at he
    subst he
    refine ⟨b :: l, by simp [hl], fun y hy => ?_, LeL.cons hle0 hle⟩
    rcases List.mem_cons.1 hy with rfl | hy
    · exact hb0
    · exact hb y hy
end Go.Proofs.Ytlifbhcmihnkpaa.Cm
