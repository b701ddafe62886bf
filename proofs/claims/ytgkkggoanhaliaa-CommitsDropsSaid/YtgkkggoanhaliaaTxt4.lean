/-
  Records applied to a table, by the program.
-/
import Derived.Test.YtgkkggoanhaliaaTxt3
import Derived.Test.YtgkkggoanhaliaaTxt2
set_option linter.unusedVariables false
set_option linter.unusedSimpArgs false
namespace Go.Proofs.Ytgkkggoanhaliaa.Cm
set_option maxRecDepth 100000
set_option maxHeartbeats 80000000
open Go.Sym

theorem rTxt {s r : List UInt8} (hs : s.length ≤ 20) (hr : r.length ≤ 100000) : CallOK Try.prog 30 [.ptr 0 0, .int .i64 20] [(0, RO (lenB s ++ r) 0)] 1 (Out (.str s) [(0, RO r 0)] 1) := by
  have hp := put_len (n := (s.length : Int)) (by unfold I64; omega)
  have h := rText (b := lenB s ++ r) (e := 0) (most := 20) (by simp only [lenB, List.length_append]; omega)
  have hb : bytesR (lenB s ++ r) 0 20 = (s, r, 0) := bytesR_put (by omega) (by omega)
  rw [hb] at h
  exact h
theorem rNm {n : Int} (hn : I64 n) : CallOK Try.prog 27 [.ptr 0 0] [(0, RO (put n) 0)] 1 (Out (.int .i64 n) [(0, RO [] 0)] 1) := by
  have hp := put_len hn
  have h := rNum (b := put n) (e := 0) (by omega)
  have hb : numR (put n) 0 = (n, [], 0) := by have := numR_put hn []; rwa [List.append_nil] at this
  rw [hb] at h
  exact h

theorem cmValNo {r : Rec} (h : r.hv = false) : CallOK Try.prog 107 [r.av] [] 0 (Out (.tup [.int .i64 0, .bool true]) [] 0) := by
  refine CallOK.fit (by decide) ?_
  refine callOK Try.call107 Try.func107 Try.ntmps107 rfl ?_
  conv => arg 4; whnf
  refine ⟨fun _ => ?_, fun h' => absurd h' (by rw [h]; decide)⟩
  (conv => arg 4; whnf); repeat (refine ⟨rfl, ?_⟩; conv => arg 4; whnf)
  exact ⟨by decide, by (repeat' (first | with_reducible exact Le.refl _ _ | exact Le.bl | exact Le.lb | exact Le.nils | exact Le.nilsFull | exact Le.none | exact LeL.nil _ | refine LeL.cons ?_ ?_ | refine Le.tup ?_ | refine Le.agg ?_ | exact Le.refl _ _ | exact LeL.refl _ _)), trivial, (by (repeat' (first | with_reducible assumption | exact ClL.nil | exact Cl.int _ _ | exact Cl.bool _ | exact Cl.bl _ | exact Cl.bs _ | exact Cl.str _ | exact Cl.nils | exact Cl.nilp | exact Cl.rec _ | exact Cl.bat _ | exact Cl.recsV _ | exact Cl.strsV _ | exact Cl.intsV _ | exact Cl.req _ | exact Cl.rsp _ | exact Cl.reqA _ | exact Cl.rspA _ | exact Cl.batsV _ | exact Cl.prsV _ | exact Cl.atsV _ | exact Cl.entA _ _ | exact Cl.ent _ | exact Cl.rr _ _ | exact Cl.foundA _ | exact Cl.getB _ | exact Cl.encA _ | exact Cl.firstA _ | refine ClL.cons ?_ ?_ | refine Cl.tup ?_ | refine Cl.agg ?_ | exact ClO.RO _ _)) : Cl _) _, trivial⟩
theorem cmVal {r : Rec} {n : Int} (h : r.hv = true) (hv : r.val = put n) (hn : I64 n) : CallOK Try.prog 107 [r.av] [] 0 (Out (.tup [.int .i64 n, .bool true]) [] 0) := by
  have hp := put_len hn
  refine CallOK.fit (by decide) ?_
  refine callOK Try.call107 Try.func107 Try.ntmps107 rfl ?_
  conv => arg 4; whnf
  refine ⟨fun h' => absurd h' (by rw [h]; decide), fun _ => ?_⟩
  (conv => arg 4; whnf); repeat (refine ⟨rfl, ?_⟩; conv => arg 4; whnf)
  refine holds_args (args' := [bs (put n)]) ⟨Le.of_eq (congrArg bs hv), trivial⟩ ?_
  refine callNew (newReader (b := put n) (by omega)) (ClL.cons (Cl.bs _) ClL.nil) (ClO.RO _ _) ?_
  (conv => arg 4; whnf); repeat (refine ⟨rfl, ?_⟩; conv => arg 4; whnf)
  refine call1 1 (rNm hn) rfl rfl (ClO.RO _ _) (ClO.RO _ _) rfl (Cl.int _ _) ?_
  (conv => arg 4; whnf); repeat (refine ⟨rfl, ?_⟩; conv => arg 4; whnf)
  refine call1 1 rErr rfl rfl (ClO.RO _ _) (ClO.RO _ _) rfl (Cl.int _ _) ?_
  (conv => arg 4; whnf); repeat (refine ⟨rfl, ?_⟩; conv => arg 4; whnf)
  refine ⟨fun _ => ?_, fun h => absurd h (by first | (simp; done) | (simp [u8s]; done))⟩
  conv => arg 4; whnf
  refine call1 1 rLeft rfl rfl (ClO.RO _ _) (ClO.RO _ _) rfl (Cl.int _ _) ?_
  (conv => arg 4; whnf); repeat (refine ⟨rfl, ?_⟩; conv => arg 4; whnf)
  exact ⟨by decide, by (repeat' (first | with_reducible exact Le.refl _ _ | exact Le.bl | exact Le.lb | exact Le.nils | exact Le.nilsFull | exact Le.none | exact LeL.nil _ | refine LeL.cons ?_ ?_ | refine Le.tup ?_ | refine Le.agg ?_ | exact Le.refl _ _ | exact LeL.refl _ _)), trivial, (by (repeat' (first | with_reducible assumption | exact ClL.nil | exact Cl.int _ _ | exact Cl.bool _ | exact Cl.bl _ | exact Cl.bs _ | exact Cl.str _ | exact Cl.nils | exact Cl.nilp | exact Cl.rec _ | exact Cl.bat _ | exact Cl.recsV _ | exact Cl.strsV _ | exact Cl.intsV _ | exact Cl.req _ | exact Cl.rsp _ | exact Cl.reqA _ | exact Cl.rspA _ | exact Cl.batsV _ | exact Cl.prsV _ | exact Cl.atsV _ | exact Cl.entA _ _ | exact Cl.ent _ | exact Cl.rr _ _ | exact Cl.foundA _ | exact Cl.getB _ | exact Cl.encA _ | exact Cl.firstA _ | refine ClL.cons ?_ ?_ | refine Cl.tup ?_ | refine Cl.agg ?_ | exact ClO.RO _ _)) : Cl _) _, trivial⟩
theorem cmPutOk {m : List (MK × Int)} {f : List (List UInt8 × Int)} {e : Ent} (h : mayE e = true) : CallOK Try.prog 65 [.ptr 2 0, e.av] (TH m f) 3 (Out (.int .i64 0) (TH (setM m (e.g, e.t, e.p) e.o) f) 3) := by
  have hn := mayE_nums h
  have c := cmPut (m := m) (f := f) (e := e) (by omega) (by omega)
  simp only [h, if_true] at c
  exact c
theorem cmGenOk {m : List (MK × Int)} {f : List (List UInt8 × Int)} {g : List UInt8} {n : Int} (h : mayG g n = true) : CallOK Try.prog 66 [.ptr 2 0, .str g, .int .i64 n] (TH m f) 3 (Out (.int .i64 0) (TH m (setM f g (max ((findM f g).getD 0) n))) 3) := by
  have hn := mayG_nums h
  have c := cmGen (m := m) (f := f) (g := g) (n := n) (by omega)
  simp only [h, if_true] at c
  exact c

theorem applyO {m : List (MK × Int)} {f : List (List UInt8 × Int)} {r : Rec} {e : Ent} {hv : Bool} (hk : r.hk = true) (hkey : r.key = keyO e) (hhv : r.hv = hv) (hval : hv = true → r.val = put e.o ∧ mayE e = true) (hpl : mayE ⟨e.g, e.t, e.p, 0⟩ = true) : CallOK Try.prog 67 [.ptr 2 0, r.av] (TH m f) 3 (Out (.int .i64 0) (TH (if hv then setM m (e.g, e.t, e.p) e.o else delM m (e.g, e.t, e.p)) f) 3) := by
  obtain ⟨i1, -, l1, l2⟩ := mayE_nums hpl
  have i1 : I64 e.p := i1
  have l1 : e.g.length ≤ 20 := l1
  have l2 : e.t.length ≤ 20 := l2
  have p1 := put_len i1
  have p2 := put_len (n := (e.g.length : Int)) (by unfold I64; omega)
  have p3 := put_len (n := (e.t.length : Int)) (by unfold I64; omega)
  have e1 : keyO e = lenB [111] ++ (lenB e.g ++ (lenB e.t ++ put e.p)) := by simp only [keyO, List.append_assoc]
  have hkl : (keyO e).length ≤ 1000 := by
    have q1 : (put ([111] : List UInt8).length).length ≤ 10 := put_len (by unfold I64; decide)
    simp only [keyO, lenB, List.length_append, List.length_cons, List.length_nil] at *
    omega
  refine CallOK.fit (by decide) ?_
  refine callOK Try.call67 Try.func67 Try.ntmps67 rfl ?_
  conv => arg 4; whnf
  refine callTab 0 1 2 (cmNone (m := m) (f := f)) rfl rfl rfl rfl rfl rfl rfl rfl rfl ?_
  (conv => arg 4; whnf); repeat (refine ⟨rfl, ?_⟩; conv => arg 4; whnf)
  refine holds_args (args' := [bs (lenB [111] ++ (lenB e.g ++ (lenB e.t ++ put e.p)))]) ⟨Le.of_eq (congrArg bs (by rw [hkey, e1])), trivial⟩ ?_
  refine callNew (newReader (b := lenB [111] ++ (lenB e.g ++ (lenB e.t ++ put e.p))) (by rw [← e1]; omega)) (ClL.cons (Cl.bs _) ClL.nil) (ClO.RO _ _) ?_
  (conv => arg 4; whnf); repeat (refine ⟨rfl, ?_⟩; conv => arg 4; whnf)
  refine call1 4 (rTxt (s := [111]) (r := lenB e.g ++ (lenB e.t ++ put e.p)) (by decide) (by rw [e1] at hkl; simp only [List.length_append] at hkl ⊢; omega)) rfl rfl (ClO.RO _ _) (ClO.RO _ _) rfl (Cl.str _) ?_
  (conv => arg 4; whnf); repeat (refine ⟨rfl, ?_⟩; conv => arg 4; whnf)
  refine call1 4 (rTxt (s := e.g) (r := lenB e.t ++ put e.p) l1 (by rw [e1] at hkl; simp only [List.length_append] at hkl ⊢; omega)) rfl rfl (ClO.RO _ _) (ClO.RO _ _) rfl (Cl.str _) ?_
  (conv => arg 4; whnf); repeat (refine ⟨rfl, ?_⟩; conv => arg 4; whnf)
  refine ⟨fun _ => ?_, fun h => absurd h (by first | (simp; done) | (simp [u8s]; done))⟩
  conv => arg 4; whnf
  refine call1 4 (rTxt (s := e.t) (r := put e.p) l2 (by omega)) rfl rfl (ClO.RO _ _) (ClO.RO _ _) rfl (Cl.str _) ?_
  (conv => arg 4; whnf); repeat (refine ⟨rfl, ?_⟩; conv => arg 4; whnf)
  refine call1 4 (rNm i1) rfl rfl (ClO.RO _ _) (ClO.RO _ _) rfl (Cl.int _ _) ?_
  (conv => arg 4; whnf); repeat (refine ⟨rfl, ?_⟩; conv => arg 4; whnf)
  cases hv
  · refine call0 (cmValNo hhv) (by (repeat' (first | with_reducible assumption | exact ClL.nil | exact Cl.int _ _ | exact Cl.bool _ | exact Cl.bl _ | exact Cl.bs _ | exact Cl.str _ | exact Cl.nils | exact Cl.nilp | exact Cl.rec _ | exact Cl.bat _ | exact Cl.recsV _ | exact Cl.strsV _ | exact Cl.intsV _ | exact Cl.req _ | exact Cl.rsp _ | exact Cl.reqA _ | exact Cl.rspA _ | exact Cl.batsV _ | exact Cl.prsV _ | exact Cl.atsV _ | exact Cl.entA _ _ | exact Cl.ent _ | exact Cl.rr _ _ | exact Cl.foundA _ | exact Cl.getB _ | exact Cl.encA _ | exact Cl.firstA _ | refine ClL.cons ?_ ?_ | refine Cl.tup ?_ | refine Cl.agg ?_ | exact ClO.RO _ _))) (by (repeat' (first | with_reducible assumption | exact ClL.nil | exact Cl.int _ _ | exact Cl.bool _ | exact Cl.bl _ | exact Cl.bs _ | exact Cl.str _ | exact Cl.nils | exact Cl.nilp | exact Cl.rec _ | exact Cl.bat _ | exact Cl.recsV _ | exact Cl.strsV _ | exact Cl.intsV _ | exact Cl.req _ | exact Cl.rsp _ | exact Cl.reqA _ | exact Cl.rspA _ | exact Cl.batsV _ | exact Cl.prsV _ | exact Cl.atsV _ | exact Cl.entA _ _ | exact Cl.ent _ | exact Cl.rr _ _ | exact Cl.foundA _ | exact Cl.getB _ | exact Cl.encA _ | exact Cl.firstA _ | refine ClL.cons ?_ ?_ | refine Cl.tup ?_ | refine Cl.agg ?_ | exact ClO.RO _ _))) ?_
    (conv => arg 4; whnf); repeat (refine ⟨rfl, ?_⟩; conv => arg 4; whnf)
    refine ⟨fun h' => absurd h' (by simp [hk]), fun _ => ?_⟩
    (conv => arg 4; whnf); repeat (refine ⟨rfl, ?_⟩; conv => arg 4; whnf)
    refine call1 4 rErr rfl rfl (ClO.RO _ _) (ClO.RO _ _) rfl (Cl.int _ _) ?_
    (conv => arg 4; whnf); repeat (refine ⟨rfl, ?_⟩; conv => arg 4; whnf)
    refine ⟨fun h => absurd h (by first | (simp; done) | (simp [u8s]; done)), fun _ => ?_⟩
    conv => arg 4; whnf
    refine call1 4 rLeft rfl rfl (ClO.RO _ _) (ClO.RO _ _) rfl (Cl.int _ _) ?_
    (conv => arg 4; whnf); repeat (refine ⟨rfl, ?_⟩; conv => arg 4; whnf)
    refine ⟨fun h => absurd h (by first | (simp; done) | (simp [u8s]; done)), fun _ => ?_⟩
    conv => arg 4; whnf
    refine ⟨fun _ => ?_, fun h => absurd h (by first | (simp; done) | (simp [u8s]; done))⟩
    conv => arg 4; whnf
    refine holds_args (args' := [(⟨e.g, e.t, e.p, 0⟩ : Ent).av]) ⟨Le.refl _ _, trivial⟩ ?_
    refine call0 (cmMay (e := ⟨e.g, e.t, e.p, 0⟩) (by show e.g.length ≤ 1000000; omega) (by show e.t.length ≤ 1000000; omega)) (ClL.cons (Cl.ent _) ClL.nil) (by (repeat' (first | with_reducible assumption | exact ClL.nil | exact Cl.int _ _ | exact Cl.bool _ | exact Cl.bl _ | exact Cl.bs _ | exact Cl.str _ | exact Cl.nils | exact Cl.nilp | exact Cl.rec _ | exact Cl.bat _ | exact Cl.recsV _ | exact Cl.strsV _ | exact Cl.intsV _ | exact Cl.req _ | exact Cl.rsp _ | exact Cl.reqA _ | exact Cl.rspA _ | exact Cl.batsV _ | exact Cl.prsV _ | exact Cl.atsV _ | exact Cl.entA _ _ | exact Cl.ent _ | exact Cl.rr _ _ | exact Cl.foundA _ | exact Cl.getB _ | exact Cl.encA _ | exact Cl.firstA _ | refine ClL.cons ?_ ?_ | refine Cl.tup ?_ | refine Cl.agg ?_ | exact ClO.RO _ _))) ?_
    (conv => arg 4; whnf); repeat (refine ⟨rfl, ?_⟩; conv => arg 4; whnf)
    refine ⟨fun h' => absurd h' (by rw [hpl, hhv]; decide), fun _ => ?_⟩
    (conv => arg 4; whnf); repeat (refine ⟨rfl, ?_⟩; conv => arg 4; whnf)
    refine ⟨fun _ => ?_, fun h => absurd h (by first | (simp; done) | (simp [u8s]; done))⟩
    conv => arg 4; whnf
    refine holds_args (args' := [(⟨e.g, e.t, e.p, 0⟩ : Ent).av]) ⟨Le.refl _ _, trivial⟩ ?_
    refine call0 (cmMay (e := ⟨e.g, e.t, e.p, 0⟩) (by show e.g.length ≤ 1000000; omega) (by show e.t.length ≤ 1000000; omega)) (ClL.cons (Cl.ent _) ClL.nil) (by (repeat' (first | with_reducible assumption | exact ClL.nil | exact Cl.int _ _ | exact Cl.bool _ | exact Cl.bl _ | exact Cl.bs _ | exact Cl.str _ | exact Cl.nils | exact Cl.nilp | exact Cl.rec _ | exact Cl.bat _ | exact Cl.recsV _ | exact Cl.strsV _ | exact Cl.intsV _ | exact Cl.req _ | exact Cl.rsp _ | exact Cl.reqA _ | exact Cl.rspA _ | exact Cl.batsV _ | exact Cl.prsV _ | exact Cl.atsV _ | exact Cl.entA _ _ | exact Cl.ent _ | exact Cl.rr _ _ | exact Cl.foundA _ | exact Cl.getB _ | exact Cl.encA _ | exact Cl.firstA _ | refine ClL.cons ?_ ?_ | refine Cl.tup ?_ | refine Cl.agg ?_ | exact ClO.RO _ _))) ?_
    (conv => arg 4; whnf); repeat (refine ⟨rfl, ?_⟩; conv => arg 4; whnf)
    refine ⟨fun _ => ?_, fun h' => absurd (hpl.symm.trans h') (by decide)⟩
    (conv => arg 4; whnf); repeat (refine ⟨rfl, ?_⟩; conv => arg 4; whnf)
    refine callTab 0 1 2 (cmDrop (m := m) (f := f) (e := ⟨e.g, e.t, e.p, 0⟩)) rfl rfl rfl rfl rfl rfl rfl rfl rfl ?_
    (conv => arg 4; whnf); repeat (refine ⟨rfl, ?_⟩; conv => arg 4; whnf)
    exact ⟨by decide, Le.refl _ _, ⟨⟨_, rfl, LeO.refl _ _⟩, ⟨_, rfl, LeO.refl _ _⟩, ⟨_, rfl, LeO.refl _ _⟩, trivial⟩, (by (repeat' (first | with_reducible assumption | exact ClL.nil | exact Cl.int _ _ | exact Cl.bool _ | exact Cl.bl _ | exact Cl.bs _ | exact Cl.str _ | exact Cl.nils | exact Cl.nilp | exact Cl.rec _ | exact Cl.bat _ | exact Cl.recsV _ | exact Cl.strsV _ | exact Cl.intsV _ | exact Cl.req _ | exact Cl.rsp _ | exact Cl.reqA _ | exact Cl.rspA _ | exact Cl.batsV _ | exact Cl.prsV _ | exact Cl.atsV _ | exact Cl.entA _ _ | exact Cl.ent _ | exact Cl.rr _ _ | exact Cl.foundA _ | exact Cl.getB _ | exact Cl.encA _ | exact Cl.firstA _ | refine ClL.cons ?_ ?_ | refine Cl.tup ?_ | refine Cl.agg ?_ | exact ClO.RO _ _)) : Cl _) _, ⟨⟨by decide, rfl⟩, ⟨by decide, ClO.fE _ _⟩, ⟨by decide, ClO.mE _ _⟩, trivial⟩⟩
  · refine call0 (cmVal hhv (hval rfl).1 (mayE_nums (hval rfl).2).2.1) (by (repeat' (first | with_reducible assumption | exact ClL.nil | exact Cl.int _ _ | exact Cl.bool _ | exact Cl.bl _ | exact Cl.bs _ | exact Cl.str _ | exact Cl.nils | exact Cl.nilp | exact Cl.rec _ | exact Cl.bat _ | exact Cl.recsV _ | exact Cl.strsV _ | exact Cl.intsV _ | exact Cl.req _ | exact Cl.rsp _ | exact Cl.reqA _ | exact Cl.rspA _ | exact Cl.batsV _ | exact Cl.prsV _ | exact Cl.atsV _ | exact Cl.entA _ _ | exact Cl.ent _ | exact Cl.rr _ _ | exact Cl.foundA _ | exact Cl.getB _ | exact Cl.encA _ | exact Cl.firstA _ | refine ClL.cons ?_ ?_ | refine Cl.tup ?_ | refine Cl.agg ?_ | exact ClO.RO _ _))) (by (repeat' (first | with_reducible assumption | exact ClL.nil | exact Cl.int _ _ | exact Cl.bool _ | exact Cl.bl _ | exact Cl.bs _ | exact Cl.str _ | exact Cl.nils | exact Cl.nilp | exact Cl.rec _ | exact Cl.bat _ | exact Cl.recsV _ | exact Cl.strsV _ | exact Cl.intsV _ | exact Cl.req _ | exact Cl.rsp _ | exact Cl.reqA _ | exact Cl.rspA _ | exact Cl.batsV _ | exact Cl.prsV _ | exact Cl.atsV _ | exact Cl.entA _ _ | exact Cl.ent _ | exact Cl.rr _ _ | exact Cl.foundA _ | exact Cl.getB _ | exact Cl.encA _ | exact Cl.firstA _ | refine ClL.cons ?_ ?_ | refine Cl.tup ?_ | refine Cl.agg ?_ | exact ClO.RO _ _))) ?_
    (conv => arg 4; whnf); repeat (refine ⟨rfl, ?_⟩; conv => arg 4; whnf)
    refine ⟨fun h' => absurd h' (by simp [hk]), fun _ => ?_⟩
    (conv => arg 4; whnf); repeat (refine ⟨rfl, ?_⟩; conv => arg 4; whnf)
    refine call1 4 rErr rfl rfl (ClO.RO _ _) (ClO.RO _ _) rfl (Cl.int _ _) ?_
    (conv => arg 4; whnf); repeat (refine ⟨rfl, ?_⟩; conv => arg 4; whnf)
    refine ⟨fun h => absurd h (by first | (simp; done) | (simp [u8s]; done)), fun _ => ?_⟩
    conv => arg 4; whnf
    refine call1 4 rLeft rfl rfl (ClO.RO _ _) (ClO.RO _ _) rfl (Cl.int _ _) ?_
    (conv => arg 4; whnf); repeat (refine ⟨rfl, ?_⟩; conv => arg 4; whnf)
    refine ⟨fun h => absurd h (by first | (simp; done) | (simp [u8s]; done)), fun _ => ?_⟩
    conv => arg 4; whnf
    refine ⟨fun _ => ?_, fun h => absurd h (by first | (simp; done) | (simp [u8s]; done))⟩
    conv => arg 4; whnf
    refine holds_args (args' := [(⟨e.g, e.t, e.p, e.o⟩ : Ent).av]) ⟨Le.refl _ _, trivial⟩ ?_
    refine call0 (cmMay (e := ⟨e.g, e.t, e.p, e.o⟩) (by show e.g.length ≤ 1000000; omega) (by show e.t.length ≤ 1000000; omega)) (ClL.cons (Cl.ent _) ClL.nil) (by (repeat' (first | with_reducible assumption | exact ClL.nil | exact Cl.int _ _ | exact Cl.bool _ | exact Cl.bl _ | exact Cl.bs _ | exact Cl.str _ | exact Cl.nils | exact Cl.nilp | exact Cl.rec _ | exact Cl.bat _ | exact Cl.recsV _ | exact Cl.strsV _ | exact Cl.intsV _ | exact Cl.req _ | exact Cl.rsp _ | exact Cl.reqA _ | exact Cl.rspA _ | exact Cl.batsV _ | exact Cl.prsV _ | exact Cl.atsV _ | exact Cl.entA _ _ | exact Cl.ent _ | exact Cl.rr _ _ | exact Cl.foundA _ | exact Cl.getB _ | exact Cl.encA _ | exact Cl.firstA _ | refine ClL.cons ?_ ?_ | refine Cl.tup ?_ | refine Cl.agg ?_ | exact ClO.RO _ _))) ?_
    (conv => arg 4; whnf); repeat (refine ⟨rfl, ?_⟩; conv => arg 4; whnf)
    refine ⟨fun _ => ?_, fun h' => absurd h' (by rw [show mayE ⟨e.g, e.t, e.p, e.o⟩ = true from (hval rfl).2, hhv]; decide)⟩
    (conv => arg 4; whnf); repeat (refine ⟨rfl, ?_⟩; conv => arg 4; whnf)
    refine callTab 0 1 2 (cmPutOk (m := m) (f := f) (hval rfl).2) rfl rfl rfl rfl rfl rfl rfl rfl rfl ?_
    (conv => arg 4; whnf); repeat (refine ⟨rfl, ?_⟩; conv => arg 4; whnf)
    exact ⟨by decide, Le.refl _ _, ⟨⟨_, rfl, LeO.refl _ _⟩, ⟨_, rfl, LeO.refl _ _⟩, ⟨_, rfl, LeO.refl _ _⟩, trivial⟩, (by (repeat' (first | with_reducible assumption | exact ClL.nil | exact Cl.int _ _ | exact Cl.bool _ | exact Cl.bl _ | exact Cl.bs _ | exact Cl.str _ | exact Cl.nils | exact Cl.nilp | exact Cl.rec _ | exact Cl.bat _ | exact Cl.recsV _ | exact Cl.strsV _ | exact Cl.intsV _ | exact Cl.req _ | exact Cl.rsp _ | exact Cl.reqA _ | exact Cl.rspA _ | exact Cl.batsV _ | exact Cl.prsV _ | exact Cl.atsV _ | exact Cl.entA _ _ | exact Cl.ent _ | exact Cl.rr _ _ | exact Cl.foundA _ | exact Cl.getB _ | exact Cl.encA _ | exact Cl.firstA _ | refine ClL.cons ?_ ?_ | refine Cl.tup ?_ | refine Cl.agg ?_ | exact ClO.RO _ _)) : Cl _) _, ⟨⟨by decide, rfl⟩, ⟨by decide, ClO.fE _ _⟩, ⟨by decide, ClO.mE _ _⟩, trivial⟩⟩

theorem applyG {m : List (MK × Int)} {f : List (List UInt8 × Int)} {r : Rec} {g : List UInt8} {n : Int} {hv : Bool} (hk : r.hk = true) (hkey : r.key = keyG g) (hhv : r.hv = hv) (hval : hv = true → r.val = put n ∧ mayG g n = true) (hpl : mayG g 0 = true) : CallOK Try.prog 67 [.ptr 2 0, r.av] (TH m f) 3 (Out (.int .i64 0) (TH m (if hv then setM f g (max ((findM f g).getD 0) n) else delM f g)) 3) := by
  obtain ⟨-, l1⟩ := mayG_nums hpl
  have p2 := put_len (n := (g.length : Int)) (by unfold I64; omega)
  have e1 : keyG g = lenB [103] ++ (lenB g ++ []) := by simp only [keyG, List.append_nil]
  have hkl : (keyG g).length ≤ 1000 := by
    have q1 : (put ([103] : List UInt8).length).length ≤ 10 := put_len (by unfold I64; decide)
    simp only [keyG, lenB, List.length_append, List.length_cons, List.length_nil] at *
    omega
  refine CallOK.fit (by decide) ?_
  refine callOK Try.call67 Try.func67 Try.ntmps67 rfl ?_
  conv => arg 4; whnf
  refine callTab 0 1 2 (cmNone (m := m) (f := f)) rfl rfl rfl rfl rfl rfl rfl rfl rfl ?_
  (conv => arg 4; whnf); repeat (refine ⟨rfl, ?_⟩; conv => arg 4; whnf)
  refine holds_args (args' := [bs (lenB [103] ++ (lenB g ++ []))]) ⟨Le.of_eq (congrArg bs (by rw [hkey, e1])), trivial⟩ ?_
  refine callNew (newReader (b := lenB [103] ++ (lenB g ++ [])) (by rw [← e1]; omega)) (ClL.cons (Cl.bs _) ClL.nil) (ClO.RO _ _) ?_
  (conv => arg 4; whnf); repeat (refine ⟨rfl, ?_⟩; conv => arg 4; whnf)
  refine call1 4 (rTxt (s := [103]) (r := lenB g ++ []) (by decide) (by rw [e1] at hkl; simp only [List.length_append] at hkl ⊢; omega)) rfl rfl (ClO.RO _ _) (ClO.RO _ _) rfl (Cl.str _) ?_
  (conv => arg 4; whnf); repeat (refine ⟨rfl, ?_⟩; conv => arg 4; whnf)
  refine call1 4 (rTxt (s := g) (r := []) l1 (by simp)) rfl rfl (ClO.RO _ _) (ClO.RO _ _) rfl (Cl.str _) ?_
  (conv => arg 4; whnf); repeat (refine ⟨rfl, ?_⟩; conv => arg 4; whnf)
  refine ⟨fun h => absurd h (by first | (simp; done) | (simp [u8s]; done)), fun _ => ?_⟩
  conv => arg 4; whnf
  cases hv
  · refine call0 (cmValNo hhv) (by (repeat' (first | with_reducible assumption | exact ClL.nil | exact Cl.int _ _ | exact Cl.bool _ | exact Cl.bl _ | exact Cl.bs _ | exact Cl.str _ | exact Cl.nils | exact Cl.nilp | exact Cl.rec _ | exact Cl.bat _ | exact Cl.recsV _ | exact Cl.strsV _ | exact Cl.intsV _ | exact Cl.req _ | exact Cl.rsp _ | exact Cl.reqA _ | exact Cl.rspA _ | exact Cl.batsV _ | exact Cl.prsV _ | exact Cl.atsV _ | exact Cl.entA _ _ | exact Cl.ent _ | exact Cl.rr _ _ | exact Cl.foundA _ | exact Cl.getB _ | exact Cl.encA _ | exact Cl.firstA _ | refine ClL.cons ?_ ?_ | refine Cl.tup ?_ | refine Cl.agg ?_ | exact ClO.RO _ _))) (by (repeat' (first | with_reducible assumption | exact ClL.nil | exact Cl.int _ _ | exact Cl.bool _ | exact Cl.bl _ | exact Cl.bs _ | exact Cl.str _ | exact Cl.nils | exact Cl.nilp | exact Cl.rec _ | exact Cl.bat _ | exact Cl.recsV _ | exact Cl.strsV _ | exact Cl.intsV _ | exact Cl.req _ | exact Cl.rsp _ | exact Cl.reqA _ | exact Cl.rspA _ | exact Cl.batsV _ | exact Cl.prsV _ | exact Cl.atsV _ | exact Cl.entA _ _ | exact Cl.ent _ | exact Cl.rr _ _ | exact Cl.foundA _ | exact Cl.getB _ | exact Cl.encA _ | exact Cl.firstA _ | refine ClL.cons ?_ ?_ | refine Cl.tup ?_ | refine Cl.agg ?_ | exact ClO.RO _ _))) ?_
    (conv => arg 4; whnf); repeat (refine ⟨rfl, ?_⟩; conv => arg 4; whnf)
    refine ⟨fun h' => absurd h' (by simp [hk]), fun _ => ?_⟩
    (conv => arg 4; whnf); repeat (refine ⟨rfl, ?_⟩; conv => arg 4; whnf)
    refine call1 4 rErr rfl rfl (ClO.RO _ _) (ClO.RO _ _) rfl (Cl.int _ _) ?_
    (conv => arg 4; whnf); repeat (refine ⟨rfl, ?_⟩; conv => arg 4; whnf)
    refine ⟨fun h => absurd h (by first | (simp; done) | (simp [u8s]; done)), fun _ => ?_⟩
    conv => arg 4; whnf
    refine call1 4 rLeft rfl rfl (ClO.RO _ _) (ClO.RO _ _) rfl (Cl.int _ _) ?_
    (conv => arg 4; whnf); repeat (refine ⟨rfl, ?_⟩; conv => arg 4; whnf)
    refine ⟨fun h => absurd h (by first | (simp; done) | (simp [u8s]; done)), fun _ => ?_⟩
    conv => arg 4; whnf
    refine ⟨fun h => absurd h (by first | (simp; done) | (simp [u8s]; done)), fun _ => ?_⟩
    conv => arg 4; whnf
    refine ⟨fun h => absurd h (by first | (simp; done) | (simp [u8s]; done)), fun _ => ?_⟩
    conv => arg 4; whnf
    refine ⟨fun _ => ?_, fun h => absurd h (by first | (simp; done) | (simp [u8s]; done))⟩
    conv => arg 4; whnf
    refine call0 (cmMayGen (g := g) (n := 0) (by omega)) (by (repeat' (first | with_reducible assumption | exact ClL.nil | exact Cl.int _ _ | exact Cl.bool _ | exact Cl.bl _ | exact Cl.bs _ | exact Cl.str _ | exact Cl.nils | exact Cl.nilp | exact Cl.rec _ | exact Cl.bat _ | exact Cl.recsV _ | exact Cl.strsV _ | exact Cl.intsV _ | exact Cl.req _ | exact Cl.rsp _ | exact Cl.reqA _ | exact Cl.rspA _ | exact Cl.batsV _ | exact Cl.prsV _ | exact Cl.atsV _ | exact Cl.entA _ _ | exact Cl.ent _ | exact Cl.rr _ _ | exact Cl.foundA _ | exact Cl.getB _ | exact Cl.encA _ | exact Cl.firstA _ | refine ClL.cons ?_ ?_ | refine Cl.tup ?_ | refine Cl.agg ?_ | exact ClO.RO _ _))) (by (repeat' (first | with_reducible assumption | exact ClL.nil | exact Cl.int _ _ | exact Cl.bool _ | exact Cl.bl _ | exact Cl.bs _ | exact Cl.str _ | exact Cl.nils | exact Cl.nilp | exact Cl.rec _ | exact Cl.bat _ | exact Cl.recsV _ | exact Cl.strsV _ | exact Cl.intsV _ | exact Cl.req _ | exact Cl.rsp _ | exact Cl.reqA _ | exact Cl.rspA _ | exact Cl.batsV _ | exact Cl.prsV _ | exact Cl.atsV _ | exact Cl.entA _ _ | exact Cl.ent _ | exact Cl.rr _ _ | exact Cl.foundA _ | exact Cl.getB _ | exact Cl.encA _ | exact Cl.firstA _ | refine ClL.cons ?_ ?_ | refine Cl.tup ?_ | refine Cl.agg ?_ | exact ClO.RO _ _))) ?_
    (conv => arg 4; whnf); repeat (refine ⟨rfl, ?_⟩; conv => arg 4; whnf)
    refine ⟨fun h' => absurd h' (by rw [hpl, hhv]; decide), fun _ => ?_⟩
    (conv => arg 4; whnf); repeat (refine ⟨rfl, ?_⟩; conv => arg 4; whnf)
    refine ⟨fun _ => ?_, fun h => absurd h (by first | (simp; done) | (simp [u8s]; done))⟩
    conv => arg 4; whnf
    refine call0 (cmMayGen (g := g) (n := 0) (by omega)) (by (repeat' (first | with_reducible assumption | exact ClL.nil | exact Cl.int _ _ | exact Cl.bool _ | exact Cl.bl _ | exact Cl.bs _ | exact Cl.str _ | exact Cl.nils | exact Cl.nilp | exact Cl.rec _ | exact Cl.bat _ | exact Cl.recsV _ | exact Cl.strsV _ | exact Cl.intsV _ | exact Cl.req _ | exact Cl.rsp _ | exact Cl.reqA _ | exact Cl.rspA _ | exact Cl.batsV _ | exact Cl.prsV _ | exact Cl.atsV _ | exact Cl.entA _ _ | exact Cl.ent _ | exact Cl.rr _ _ | exact Cl.foundA _ | exact Cl.getB _ | exact Cl.encA _ | exact Cl.firstA _ | refine ClL.cons ?_ ?_ | refine Cl.tup ?_ | refine Cl.agg ?_ | exact ClO.RO _ _))) (by (repeat' (first | with_reducible assumption | exact ClL.nil | exact Cl.int _ _ | exact Cl.bool _ | exact Cl.bl _ | exact Cl.bs _ | exact Cl.str _ | exact Cl.nils | exact Cl.nilp | exact Cl.rec _ | exact Cl.bat _ | exact Cl.recsV _ | exact Cl.strsV _ | exact Cl.intsV _ | exact Cl.req _ | exact Cl.rsp _ | exact Cl.reqA _ | exact Cl.rspA _ | exact Cl.batsV _ | exact Cl.prsV _ | exact Cl.atsV _ | exact Cl.entA _ _ | exact Cl.ent _ | exact Cl.rr _ _ | exact Cl.foundA _ | exact Cl.getB _ | exact Cl.encA _ | exact Cl.firstA _ | refine ClL.cons ?_ ?_ | refine Cl.tup ?_ | refine Cl.agg ?_ | exact ClO.RO _ _))) ?_
    (conv => arg 4; whnf); repeat (refine ⟨rfl, ?_⟩; conv => arg 4; whnf)
    refine ⟨fun _ => ?_, fun h' => absurd (hpl.symm.trans h') (by decide)⟩
    (conv => arg 4; whnf); repeat (refine ⟨rfl, ?_⟩; conv => arg 4; whnf)
    refine ⟨askF f g, ?_⟩
    (conv => arg 4; whnf); repeat (refine ⟨rfl, ?_⟩; conv => arg 4; whnf)
    simp only [Bool.false_eq_true, if_false]
    exact ⟨by decide, Le.refl _ _, ⟨⟨_, rfl, LeO.refl _ _⟩, ⟨_, rfl, by rw [← del_fE]; exact LeO.refl _ _⟩, ⟨_, rfl, LeO.refl _ _⟩, trivial⟩, (by (repeat' (first | with_reducible assumption | exact ClL.nil | exact Cl.int _ _ | exact Cl.bool _ | exact Cl.bl _ | exact Cl.bs _ | exact Cl.str _ | exact Cl.nils | exact Cl.nilp | exact Cl.rec _ | exact Cl.bat _ | exact Cl.recsV _ | exact Cl.strsV _ | exact Cl.intsV _ | exact Cl.req _ | exact Cl.rsp _ | exact Cl.reqA _ | exact Cl.rspA _ | exact Cl.batsV _ | exact Cl.prsV _ | exact Cl.atsV _ | exact Cl.entA _ _ | exact Cl.ent _ | exact Cl.rr _ _ | exact Cl.foundA _ | exact Cl.getB _ | exact Cl.encA _ | exact Cl.firstA _ | refine ClL.cons ?_ ?_ | refine Cl.tup ?_ | refine Cl.agg ?_ | exact ClO.RO _ _)) : Cl _) _, ⟨⟨by decide, rfl⟩, ⟨by decide, ClO.fE _ _⟩, ⟨by decide, ClO.mE _ _⟩, trivial⟩⟩
  · refine call0 (cmVal hhv (hval rfl).1 (mayG_nums (hval rfl).2).1) (by (repeat' (first | with_reducible assumption | exact ClL.nil | exact Cl.int _ _ | exact Cl.bool _ | exact Cl.bl _ | exact Cl.bs _ | exact Cl.str _ | exact Cl.nils | exact Cl.nilp | exact Cl.rec _ | exact Cl.bat _ | exact Cl.recsV _ | exact Cl.strsV _ | exact Cl.intsV _ | exact Cl.req _ | exact Cl.rsp _ | exact Cl.reqA _ | exact Cl.rspA _ | exact Cl.batsV _ | exact Cl.prsV _ | exact Cl.atsV _ | exact Cl.entA _ _ | exact Cl.ent _ | exact Cl.rr _ _ | exact Cl.foundA _ | exact Cl.getB _ | exact Cl.encA _ | exact Cl.firstA _ | refine ClL.cons ?_ ?_ | refine Cl.tup ?_ | refine Cl.agg ?_ | exact ClO.RO _ _))) (by (repeat' (first | with_reducible assumption | exact ClL.nil | exact Cl.int _ _ | exact Cl.bool _ | exact Cl.bl _ | exact Cl.bs _ | exact Cl.str _ | exact Cl.nils | exact Cl.nilp | exact Cl.rec _ | exact Cl.bat _ | exact Cl.recsV _ | exact Cl.strsV _ | exact Cl.intsV _ | exact Cl.req _ | exact Cl.rsp _ | exact Cl.reqA _ | exact Cl.rspA _ | exact Cl.batsV _ | exact Cl.prsV _ | exact Cl.atsV _ | exact Cl.entA _ _ | exact Cl.ent _ | exact Cl.rr _ _ | exact Cl.foundA _ | exact Cl.getB _ | exact Cl.encA _ | exact Cl.firstA _ | refine ClL.cons ?_ ?_ | refine Cl.tup ?_ | refine Cl.agg ?_ | exact ClO.RO _ _))) ?_
    (conv => arg 4; whnf); repeat (refine ⟨rfl, ?_⟩; conv => arg 4; whnf)
    refine ⟨fun h' => absurd h' (by simp [hk]), fun _ => ?_⟩
    (conv => arg 4; whnf); repeat (refine ⟨rfl, ?_⟩; conv => arg 4; whnf)
    refine call1 4 rErr rfl rfl (ClO.RO _ _) (ClO.RO _ _) rfl (Cl.int _ _) ?_
    (conv => arg 4; whnf); repeat (refine ⟨rfl, ?_⟩; conv => arg 4; whnf)
    refine ⟨fun h => absurd h (by first | (simp; done) | (simp [u8s]; done)), fun _ => ?_⟩
    conv => arg 4; whnf
    refine call1 4 rLeft rfl rfl (ClO.RO _ _) (ClO.RO _ _) rfl (Cl.int _ _) ?_
    (conv => arg 4; whnf); repeat (refine ⟨rfl, ?_⟩; conv => arg 4; whnf)
    refine ⟨fun h => absurd h (by first | (simp; done) | (simp [u8s]; done)), fun _ => ?_⟩
    conv => arg 4; whnf
    refine ⟨fun h => absurd h (by first | (simp; done) | (simp [u8s]; done)), fun _ => ?_⟩
    conv => arg 4; whnf
    refine ⟨fun h => absurd h (by first | (simp; done) | (simp [u8s]; done)), fun _ => ?_⟩
    conv => arg 4; whnf
    refine ⟨fun _ => ?_, fun h => absurd h (by first | (simp; done) | (simp [u8s]; done))⟩
    conv => arg 4; whnf
    refine call0 (cmMayGen (g := g) (n := n) (by omega)) (by (repeat' (first | with_reducible assumption | exact ClL.nil | exact Cl.int _ _ | exact Cl.bool _ | exact Cl.bl _ | exact Cl.bs _ | exact Cl.str _ | exact Cl.nils | exact Cl.nilp | exact Cl.rec _ | exact Cl.bat _ | exact Cl.recsV _ | exact Cl.strsV _ | exact Cl.intsV _ | exact Cl.req _ | exact Cl.rsp _ | exact Cl.reqA _ | exact Cl.rspA _ | exact Cl.batsV _ | exact Cl.prsV _ | exact Cl.atsV _ | exact Cl.entA _ _ | exact Cl.ent _ | exact Cl.rr _ _ | exact Cl.foundA _ | exact Cl.getB _ | exact Cl.encA _ | exact Cl.firstA _ | refine ClL.cons ?_ ?_ | refine Cl.tup ?_ | refine Cl.agg ?_ | exact ClO.RO _ _))) (by (repeat' (first | with_reducible assumption | exact ClL.nil | exact Cl.int _ _ | exact Cl.bool _ | exact Cl.bl _ | exact Cl.bs _ | exact Cl.str _ | exact Cl.nils | exact Cl.nilp | exact Cl.rec _ | exact Cl.bat _ | exact Cl.recsV _ | exact Cl.strsV _ | exact Cl.intsV _ | exact Cl.req _ | exact Cl.rsp _ | exact Cl.reqA _ | exact Cl.rspA _ | exact Cl.batsV _ | exact Cl.prsV _ | exact Cl.atsV _ | exact Cl.entA _ _ | exact Cl.ent _ | exact Cl.rr _ _ | exact Cl.foundA _ | exact Cl.getB _ | exact Cl.encA _ | exact Cl.firstA _ | refine ClL.cons ?_ ?_ | refine Cl.tup ?_ | refine Cl.agg ?_ | exact ClO.RO _ _))) ?_
    (conv => arg 4; whnf); repeat (refine ⟨rfl, ?_⟩; conv => arg 4; whnf)
    refine ⟨fun _ => ?_, fun h' => absurd h' (by rw [(hval rfl).2, hhv]; decide)⟩
    (conv => arg 4; whnf); repeat (refine ⟨rfl, ?_⟩; conv => arg 4; whnf)
    refine callTab 0 1 2 (cmGenOk (m := m) (f := f) (hval rfl).2) rfl rfl rfl rfl rfl rfl rfl rfl rfl ?_
    (conv => arg 4; whnf); repeat (refine ⟨rfl, ?_⟩; conv => arg 4; whnf)
    exact ⟨by decide, Le.refl _ _, ⟨⟨_, rfl, LeO.refl _ _⟩, ⟨_, rfl, LeO.refl _ _⟩, ⟨_, rfl, LeO.refl _ _⟩, trivial⟩, (by (repeat' (first | with_reducible assumption | exact ClL.nil | exact Cl.int _ _ | exact Cl.bool _ | exact Cl.bl _ | exact Cl.bs _ | exact Cl.str _ | exact Cl.nils | exact Cl.nilp | exact Cl.rec _ | exact Cl.bat _ | exact Cl.recsV _ | exact Cl.strsV _ | exact Cl.intsV _ | exact Cl.req _ | exact Cl.rsp _ | exact Cl.reqA _ | exact Cl.rspA _ | exact Cl.batsV _ | exact Cl.prsV _ | exact Cl.atsV _ | exact Cl.entA _ _ | exact Cl.ent _ | exact Cl.rr _ _ | exact Cl.foundA _ | exact Cl.getB _ | exact Cl.encA _ | exact Cl.firstA _ | refine ClL.cons ?_ ?_ | refine Cl.tup ?_ | refine Cl.agg ?_ | exact ClO.RO _ _)) : Cl _) _, ⟨⟨by decide, rfl⟩, ⟨by decide, ClO.fE _ _⟩, ⟨by decide, ClO.mE _ _⟩, trivial⟩⟩
end Go.Proofs.Ytgkkggoanhaliaa.Cm

namespace Go.Proofs.Ytgkkggoanhaliaa.Cm
set_option maxRecDepth 100000
set_option maxHeartbeats 80000000
open Go.Sym

abbrev Tru (a : AV) (_ : Heap) (_ : Nat) : Prop := a = .bool true ∨ a = .bl true

theorem Cl.intsV (l : List Int) : Cl (.sl .none 0 (ints l)) := Cl.sl (fun ρ => ren_ints ρ l)
theorem argsT {nx i j k : Nat} {a : AV} (h : Cl a) : [AV.ptr k 0, a] = renL (rho nx [i, j, k]) [.ptr 2 0, a] := by
  simp only [renL, ren, h _]
  rfl
theorem cmRecordOk {e : Ent} {now : Int} (h : mayE e = true) (hn : mayT now = true) : CallOK Try.prog 58 [e.av, .int .i64 now] [] 0 (Out (.tup [(recR (keyO e) e.o now).av, .int .i64 0]) [] 0) := by
  have hl := mayE_nums h
  have c := cmRecord (e := e) (now := now) (by omega) (by omega)
  rw [h, hn] at c
  exact c
theorem cmGenRecordOk {g : List UInt8} {n now : Int} (h : mayG g n = true) (hn : mayT now = true) : CallOK Try.prog 61 [.str g, .int .i64 n, .int .i64 now] [] 0 (Out (.tup [(recR (keyG g) n now).av, .int .i64 0]) [] 0) := by
  have hl := mayG_nums h
  have c := cmGenRecord (g := g) (n := n) (now := now) (by omega)
  rw [h, hn] at c
  exact c

theorem cmPutNo {m : List (MK × Int)} {f : List (List UInt8 × Int)} {e : Ent} (h : mayE e = false) (hg : e.g.length ≤ 1000000) (ht : e.t.length ≤ 1000000) : CallOK Try.prog 65 [.ptr 2 0, e.av] (TH m f) 3 (Out (.int .i64 1) (TH m f) 3) := by
  have c := cmPut (m := m) (f := f) (e := e) hg ht
  simp only [h, Bool.false_eq_true, if_false] at c
  exact c

theorem isum_range : ∀ {xs : List Int} {n : Int}, 0 ≤ n ∧ n ≤ 1099511627776 → (∀ x ∈ xs, 0 ≤ x) → 0 ≤ isum n xs ∧ isum n xs ≤ 1099511627776
  | [], n, hn, _ => hn
  | x :: r, n, hn, hx => by
    have h0 := hx x List.mem_cons_self
    unfold isum
    split
    · omega
    · exact isum_range (by omega) fun y hy => hx y (List.mem_cons_of_mem _ hy)
theorem isum_eq : ∀ {xs : List Int} {n : Int}, 0 ≤ n ∧ n ≤ 1099511627776 → (∀ x ∈ xs, 0 ≤ x) → isum n xs < 1099511627776 → isum n xs = n + xs.sum
  | [], n, hn, _, _ => by simp [isum]
  | x :: r, n, hn, hx, hl => by
    have h0 := hx x List.mem_cons_self
    unfold isum at hl ⊢
    split at hl
    · omega
    · rename_i hc
      rw [if_neg hc, isum_eq (by omega) (fun y hy => hx y (List.mem_cons_of_mem _ hy)) hl, List.sum_cons]
      omega

theorem sumB {n : Int} {x : Int} {xs : List Int} (hn : 1099511627776 < n) (hn' : n ≤ 1000000000000000000) (hx : 0 ≤ x) : CallOK Try.prog 42 [.int .i64 n, .sl .none 0 (ints (x :: xs))] [] 0 (Out (.int .i64 1099511627776) [] 0) := by
  refine callOK Try.call42 Try.func42 Try.ntmps42 rfl ?_
  conv => arg 4; whnf
  refine tri_loopG (ι := Unit) (fun _ => ⟨[(5, .int .i64 0), (0, .int .i64 n), (1, .sl .none 0 (ints (x :: xs)))], [], 0, 30⟩) (fun _ => 0) () (WkG.of rfl rfl ⟨Le.refl _ _, Le.refl _ _, Le.refl _ _, trivial⟩ trivial ⟨rfl, rfl, Cl.intsV _ _, trivial⟩ trivial) ?_
  intro _
  conv => arg 4; whnf
  have h0 : decide ((0 : Int) < ((ints (x :: xs)).length : Int)) = true := by simp [ints]
  refine ⟨fun _ => ?_, fun h' => absurd (h0.symm.trans h') (by decide)⟩
  conv => arg 4; whnf
  refine ⟨.int .i64 x, ctxP_of ⟨by omega, rfl⟩, ?_⟩
  conv => arg 4; whnf
  have h1 : decide (n > 1099511627776) = true := by simp; omega
  rw [h1]
  refine ⟨fun _ => ?_, fun h' => absurd h' (by simp)⟩
  conv => arg 4; whnf
  exact ⟨rfl, rfl, rfl⟩

/-- A weight's sum, of numbers that are none below nothing; below the limit it is their sum. -/
theorem sumE {n x : Int} {xs : List Int} (hn : 0 ≤ n ∧ n ≤ 1000000000000000000) (hx : ∀ y ∈ x :: xs, 0 ≤ y) (hl : (x :: xs).length ≤ 1000) :
    CallOK Try.prog 42 [.int .i64 n, .sl .none 0 (ints (x :: xs))] [] 0 (fun a h m => ∃ v : Int, (0 ≤ v ∧ v ≤ 1099511627776 ∧ (v < 1099511627776 → v = n + (x :: xs).sum)) ∧ Out (.int .i64 v) [] 0 a h m) := by
  by_cases h : n ≤ 1099511627776
  · exact (sum ⟨hn.1, h⟩ hx hl).mono fun _ _ _ k => ⟨_, ⟨(isum_range ⟨hn.1, h⟩ hx).1, (isum_range ⟨hn.1, h⟩ hx).2, isum_eq ⟨hn.1, h⟩ hx⟩, k⟩
  · exact (sumB (by omega) hn.2 (hx x List.mem_cons_self)).mono fun _ _ _ k => ⟨1099511627776, ⟨by omega, by omega, fun h => by omega⟩, k⟩

theorem made18 {e : Ent} : CallOK Try.prog 59 [e.av] [] 0 (Out e.av [] 0) := by
  refine CallOK.fit (by decide) ?_
  refine callOK Try.call59 Try.func59 Try.ntmps59 rfl ?_
  conv => arg 4; whnf
  exact ⟨by decide, Le.refl _ _, trivial, Cl.ent _ _, trivial⟩

theorem awake18 : CallOK Try.prog 57 [] [] 0 (Out (.bool true) [] 0) := by
  refine CallOK.fit (by decide) ?_
  refine callOK Try.call57 Try.func57 Try.ntmps57 rfl ?_
  conv => arg 4; whnf
  refine holds_out [] cmNew rfl trivial rfl ?_
  (conv => arg 4; whnf); repeat (refine ⟨rfl, ?_⟩; conv => arg 4; whnf)
  refine call0 (cmRecordOk (e := ⟨[103], [116], 1, 7⟩) (now := 3) (by decide) (by decide)) (by (repeat' (first | with_reducible assumption | exact ClL.nil | exact Cl.int _ _ | exact Cl.bool _ | exact Cl.bl _ | exact Cl.bs _ | exact Cl.str _ | exact Cl.nils | exact Cl.nilp | exact Cl.rec _ | exact Cl.bat _ | exact Cl.recsV _ | exact Cl.strsV _ | exact Cl.intsV _ | exact Cl.req _ | exact Cl.rsp _ | exact Cl.reqA _ | exact Cl.rspA _ | exact Cl.batsV _ | exact Cl.prsV _ | exact Cl.atsV _ | exact Cl.entA _ _ | exact Cl.ent _ | exact Cl.rr _ _ | exact Cl.foundA _ | exact Cl.getB _ | exact Cl.encA _ | exact Cl.firstA _ | refine ClL.cons ?_ ?_ | refine Cl.tup ?_ | refine Cl.agg ?_ | exact ClO.RO _ _))) (Cl.tup (ClL.cons (Cl.rec _) (ClL.cons (Cl.int _ _) ClL.nil))) ?_
  (conv => arg 4; whnf); repeat (refine ⟨rfl, ?_⟩; conv => arg 4; whnf)
  refine callTab 0 1 2 (m := []) (f := []) (applyO (r := recR (keyO ⟨[103], [116], 1, 7⟩) 7 3) (e := ⟨[103], [116], 1, 7⟩) (hv := true) rfl rfl rfl (fun _ => ⟨rfl, by decide⟩) (by decide)) rfl rfl rfl rfl rfl rfl rfl (argsT (Cl.rec _)) rfl ?_
  (conv => arg 4; whnf); repeat (refine ⟨rfl, ?_⟩; conv => arg 4; whnf)
  refine callTab 0 1 2 (m := setM [] ([103], [116], 1) 7) (f := []) (cmGet (g := [103]) (t := [116]) (p := 1)) rfl rfl rfl rfl rfl rfl rfl rfl rfl ?_
  (conv => arg 4; whnf); repeat (refine ⟨rfl, ?_⟩; conv => arg 4; whnf)
  refine ⟨fun _ => ?_, fun h' => absurd h' (by decide)⟩
  (conv => arg 4; whnf); repeat (refine ⟨rfl, ?_⟩; conv => arg 4; whnf)
  refine callTab 0 1 2 (m := setM [] ([103], [116], 1) 7) (f := []) (cmPutNo (e := ⟨[71], [116], 0, 0⟩) (by decide) (by decide) (by decide)) rfl rfl rfl rfl rfl rfl rfl rfl rfl ?_
  (conv => arg 4; whnf); repeat (refine ⟨rfl, ?_⟩; conv => arg 4; whnf)
  refine ⟨by decide, Le.of_eq (congrArg AV.bool (by decide)), trivial, (Cl.bool _) _, trivial⟩

theorem lawRecords {e : Ent} {gen now : Int} (hg : e.g.length ≤ 1000000000000000) (ht : e.t.length ≤ 1000000000000000) : CallOK Try.prog 12 [e.av, .int .i64 gen, .int .i64 now] [] 0 Tru := by
  refine callOK Try.call12 Try.func12 Try.ntmps12 rfl ?_
  conv => arg 4; whnf
  refine holds_args (args' := [_, .sl .none 0 (ints [(e.t.length : Int)])]) ⟨Le.refl _ _, Le.none, trivial⟩ ?_
  refine call0E (sumE (n := (e.g.length : Int)) (x := (e.t.length : Int)) (xs := []) ⟨by omega, by omega⟩ (by intro y hy; simp at hy; omega) (by simp)) (ClL.cons (Cl.int _ _) (ClL.cons (Cl.intsV _) ClL.nil)) (fun x => by (repeat' (first | with_reducible assumption | exact ClL.nil | exact Cl.int _ _ | exact Cl.bool _ | exact Cl.bl _ | exact Cl.bs _ | exact Cl.str _ | exact Cl.nils | exact Cl.nilp | exact Cl.rec _ | exact Cl.bat _ | exact Cl.recsV _ | exact Cl.strsV _ | exact Cl.intsV _ | exact Cl.req _ | exact Cl.rsp _ | exact Cl.reqA _ | exact Cl.rspA _ | exact Cl.batsV _ | exact Cl.prsV _ | exact Cl.atsV _ | exact Cl.entA _ _ | exact Cl.ent _ | exact Cl.rr _ _ | exact Cl.foundA _ | exact Cl.getB _ | exact Cl.encA _ | exact Cl.firstA _ | refine ClL.cons ?_ ?_ | refine Cl.tup ?_ | refine Cl.agg ?_ | exact ClO.RO _ _))) fun v hv => ?_
  (conv => arg 4; whnf); repeat (refine ⟨rfl, ?_⟩; conv => arg 4; whnf)
  refine ⟨fun h => ?_, fun h => ?_⟩
  · (conv => arg 4; whnf); repeat (refine ⟨rfl, ?_⟩; conv => arg 4; whnf)
    refine call0 awake18 (by (repeat' (first | with_reducible assumption | exact ClL.nil | exact Cl.int _ _ | exact Cl.bool _ | exact Cl.bl _ | exact Cl.bs _ | exact Cl.str _ | exact Cl.nils | exact Cl.nilp | exact Cl.rec _ | exact Cl.bat _ | exact Cl.recsV _ | exact Cl.strsV _ | exact Cl.intsV _ | exact Cl.req _ | exact Cl.rsp _ | exact Cl.reqA _ | exact Cl.rspA _ | exact Cl.batsV _ | exact Cl.prsV _ | exact Cl.atsV _ | exact Cl.entA _ _ | exact Cl.ent _ | exact Cl.rr _ _ | exact Cl.foundA _ | exact Cl.getB _ | exact Cl.encA _ | exact Cl.firstA _ | refine ClL.cons ?_ ?_ | refine Cl.tup ?_ | refine Cl.agg ?_ | exact ClO.RO _ _))) (by (repeat' (first | with_reducible assumption | exact ClL.nil | exact Cl.int _ _ | exact Cl.bool _ | exact Cl.bl _ | exact Cl.bs _ | exact Cl.str _ | exact Cl.nils | exact Cl.nilp | exact Cl.rec _ | exact Cl.bat _ | exact Cl.recsV _ | exact Cl.strsV _ | exact Cl.intsV _ | exact Cl.req _ | exact Cl.rsp _ | exact Cl.reqA _ | exact Cl.rspA _ | exact Cl.batsV _ | exact Cl.prsV _ | exact Cl.atsV _ | exact Cl.entA _ _ | exact Cl.ent _ | exact Cl.rr _ _ | exact Cl.foundA _ | exact Cl.getB _ | exact Cl.encA _ | exact Cl.firstA _ | refine ClL.cons ?_ ?_ | refine Cl.tup ?_ | refine Cl.agg ?_ | exact ClO.RO _ _))) ?_
    (conv => arg 4; whnf); repeat (refine ⟨rfl, ?_⟩; conv => arg 4; whnf)
    exact .inl rfl
  · rw [← Bool.not_eq_true] at h; simp only [Bool.cond_true_left, Bool.cond_false_right, Bool.or_eq_true, Bool.and_eq_true, Bool.not_eq_true', decide_eq_true_eq, beq_iff_eq, bne_iff_ne, u8s_length, gt_iff_lt, ge_iff_le] at h
    have h2 := hv.2.2 (by omega)
    simp only [List.sum_cons, List.sum_nil] at h2
    have hgl : e.g.length ≤ 300 ∧ e.t.length ≤ 300 := by omega
    (conv => arg 4; whnf); repeat (refine ⟨rfl, ?_⟩; conv => arg 4; whnf)
    refine call0 made18 (ClL.cons (Cl.ent e) ClL.nil) (Cl.ent e) ?_
    (conv => arg 4; whnf); repeat (refine ⟨rfl, ?_⟩; conv => arg 4; whnf)
    refine call0 (cmRecord (e := e) (now := now) (by omega) (by omega)) (by (repeat' (first | with_reducible assumption | exact ClL.nil | exact Cl.int _ _ | exact Cl.bool _ | exact Cl.bl _ | exact Cl.bs _ | exact Cl.str _ | exact Cl.nils | exact Cl.nilp | exact Cl.rec _ | exact Cl.bat _ | exact Cl.recsV _ | exact Cl.strsV _ | exact Cl.intsV _ | exact Cl.req _ | exact Cl.rsp _ | exact Cl.reqA _ | exact Cl.rspA _ | exact Cl.batsV _ | exact Cl.prsV _ | exact Cl.atsV _ | exact Cl.entA _ _ | exact Cl.ent _ | exact Cl.rr _ _ | exact Cl.foundA _ | exact Cl.getB _ | exact Cl.encA _ | exact Cl.firstA _ | refine ClL.cons ?_ ?_ | refine Cl.tup ?_ | refine Cl.agg ?_ | exact ClO.RO _ _))) (Cl.rr _ _) ?_
    (conv => arg 4; whnf); repeat (refine ⟨rfl, ?_⟩; conv => arg 4; whnf)
    refine call0 (refRecord (e := e) (now := now) (by omega) (by omega)) (ClL.cons (Cl.ent e) (ClL.cons (Cl.int _ _) ClL.nil)) (Cl.rr _ _) ?_
    (conv => arg 4; whnf); repeat (refine ⟨rfl, ?_⟩; conv => arg 4; whnf)
    refine call0 (cmGenRecord (g := e.g) (n := gen) (now := now) (by omega)) (by (repeat' (first | with_reducible assumption | exact ClL.nil | exact Cl.int _ _ | exact Cl.bool _ | exact Cl.bl _ | exact Cl.bs _ | exact Cl.str _ | exact Cl.nils | exact Cl.nilp | exact Cl.rec _ | exact Cl.bat _ | exact Cl.recsV _ | exact Cl.strsV _ | exact Cl.intsV _ | exact Cl.req _ | exact Cl.rsp _ | exact Cl.reqA _ | exact Cl.rspA _ | exact Cl.batsV _ | exact Cl.prsV _ | exact Cl.atsV _ | exact Cl.entA _ _ | exact Cl.ent _ | exact Cl.rr _ _ | exact Cl.foundA _ | exact Cl.getB _ | exact Cl.encA _ | exact Cl.firstA _ | refine ClL.cons ?_ ?_ | refine Cl.tup ?_ | refine Cl.agg ?_ | exact ClO.RO _ _))) (Cl.rr _ _) ?_
    (conv => arg 4; whnf); repeat (refine ⟨rfl, ?_⟩; conv => arg 4; whnf)
    refine call0 (refGenRecord (g := e.g) (n := gen) (now := now) (by omega)) (by (repeat' (first | with_reducible assumption | exact ClL.nil | exact Cl.int _ _ | exact Cl.bool _ | exact Cl.bl _ | exact Cl.bs _ | exact Cl.str _ | exact Cl.nils | exact Cl.nilp | exact Cl.rec _ | exact Cl.bat _ | exact Cl.recsV _ | exact Cl.strsV _ | exact Cl.intsV _ | exact Cl.req _ | exact Cl.rsp _ | exact Cl.reqA _ | exact Cl.rspA _ | exact Cl.batsV _ | exact Cl.prsV _ | exact Cl.atsV _ | exact Cl.entA _ _ | exact Cl.ent _ | exact Cl.rr _ _ | exact Cl.foundA _ | exact Cl.getB _ | exact Cl.encA _ | exact Cl.firstA _ | refine ClL.cons ?_ ?_ | refine Cl.tup ?_ | refine Cl.agg ?_ | exact ClO.RO _ _))) (Cl.rr _ _) ?_
    (conv => arg 4; whnf); repeat (refine ⟨rfl, ?_⟩; conv => arg 4; whnf)
    refine call0 (refSameRec (a := rrR (mayE e && mayT now) (recR (keyO e) e.o now)) (b := rrR (mayE e && mayT now) (recR (keyO e) e.o now))) (ClL.cons (Cl.rec _) (ClL.cons (Cl.rec _) ClL.nil)) (by (repeat' (first | with_reducible assumption | exact ClL.nil | exact Cl.int _ _ | exact Cl.bool _ | exact Cl.bl _ | exact Cl.bs _ | exact Cl.str _ | exact Cl.nils | exact Cl.nilp | exact Cl.rec _ | exact Cl.bat _ | exact Cl.recsV _ | exact Cl.strsV _ | exact Cl.intsV _ | exact Cl.req _ | exact Cl.rsp _ | exact Cl.reqA _ | exact Cl.rspA _ | exact Cl.batsV _ | exact Cl.prsV _ | exact Cl.atsV _ | exact Cl.entA _ _ | exact Cl.ent _ | exact Cl.rr _ _ | exact Cl.foundA _ | exact Cl.getB _ | exact Cl.encA _ | exact Cl.firstA _ | refine ClL.cons ?_ ?_ | refine Cl.tup ?_ | refine Cl.agg ?_ | exact ClO.RO _ _))) ?_
    (conv => arg 4; whnf); repeat (refine ⟨rfl, ?_⟩; conv => arg 4; whnf)
    refine ⟨fun _ => ?_, fun h' => absurd h' (by simp)⟩
    (conv => arg 4; whnf); repeat (refine ⟨rfl, ?_⟩; conv => arg 4; whnf)
    refine call0 (refSameRec (a := rrR (mayG e.g gen && mayT now) (recR (keyG e.g) gen now)) (b := rrR (mayG e.g gen && mayT now) (recR (keyG e.g) gen now))) (ClL.cons (Cl.rec _) (ClL.cons (Cl.rec _) ClL.nil)) (by (repeat' (first | with_reducible assumption | exact ClL.nil | exact Cl.int _ _ | exact Cl.bool _ | exact Cl.bl _ | exact Cl.bs _ | exact Cl.str _ | exact Cl.nils | exact Cl.nilp | exact Cl.rec _ | exact Cl.bat _ | exact Cl.recsV _ | exact Cl.strsV _ | exact Cl.intsV _ | exact Cl.req _ | exact Cl.rsp _ | exact Cl.reqA _ | exact Cl.rspA _ | exact Cl.batsV _ | exact Cl.prsV _ | exact Cl.atsV _ | exact Cl.entA _ _ | exact Cl.ent _ | exact Cl.rr _ _ | exact Cl.foundA _ | exact Cl.getB _ | exact Cl.encA _ | exact Cl.firstA _ | refine ClL.cons ?_ ?_ | refine Cl.tup ?_ | refine Cl.agg ?_ | exact ClO.RO _ _))) ?_
    (conv => arg 4; whnf); repeat (refine ⟨rfl, ?_⟩; conv => arg 4; whnf)
    refine ⟨fun _ => ?_, fun h' => absurd h' (by simp)⟩
    (conv => arg 4; whnf); repeat (refine ⟨rfl, ?_⟩; conv => arg 4; whnf)
    refine call0 awake18 (by (repeat' (first | with_reducible assumption | exact ClL.nil | exact Cl.int _ _ | exact Cl.bool _ | exact Cl.bl _ | exact Cl.bs _ | exact Cl.str _ | exact Cl.nils | exact Cl.nilp | exact Cl.rec _ | exact Cl.bat _ | exact Cl.recsV _ | exact Cl.strsV _ | exact Cl.intsV _ | exact Cl.req _ | exact Cl.rsp _ | exact Cl.reqA _ | exact Cl.rspA _ | exact Cl.batsV _ | exact Cl.prsV _ | exact Cl.atsV _ | exact Cl.entA _ _ | exact Cl.ent _ | exact Cl.rr _ _ | exact Cl.foundA _ | exact Cl.getB _ | exact Cl.encA _ | exact Cl.firstA _ | refine ClL.cons ?_ ?_ | refine Cl.tup ?_ | refine Cl.agg ?_ | exact ClO.RO _ _))) (by (repeat' (first | with_reducible assumption | exact ClL.nil | exact Cl.int _ _ | exact Cl.bool _ | exact Cl.bl _ | exact Cl.bs _ | exact Cl.str _ | exact Cl.nils | exact Cl.nilp | exact Cl.rec _ | exact Cl.bat _ | exact Cl.recsV _ | exact Cl.strsV _ | exact Cl.intsV _ | exact Cl.req _ | exact Cl.rsp _ | exact Cl.reqA _ | exact Cl.rspA _ | exact Cl.batsV _ | exact Cl.prsV _ | exact Cl.atsV _ | exact Cl.entA _ _ | exact Cl.ent _ | exact Cl.rr _ _ | exact Cl.foundA _ | exact Cl.getB _ | exact Cl.encA _ | exact Cl.firstA _ | refine ClL.cons ?_ ?_ | refine Cl.tup ?_ | refine Cl.agg ?_ | exact ClO.RO _ _))) ?_
    (conv => arg 4; whnf); repeat (refine ⟨rfl, ?_⟩; conv => arg 4; whnf)
    exact .inl rfl
end Go.Proofs.Ytgkkggoanhaliaa.Cm

namespace Go.Proofs.Ytgkkggoanhaliaa.Cm
set_option maxRecDepth 100000
set_option maxHeartbeats 80000000
open Go.Sym

theorem cmGenNo {m : List (MK × Int)} {f : List (List UInt8 × Int)} {g : List UInt8} {n : Int} (h : mayG g n = false) (hg : g.length ≤ 1000000) : CallOK Try.prog 66 [.ptr 2 0, .str g, .int .i64 n] (TH m f) 3 (Out (.int .i64 1) (TH m f) 3) := by
  have c := cmGen (m := m) (f := f) (g := g) (n := n) hg
  simp only [h, Bool.false_eq_true, if_false] at c
  exact c

theorem lawDrops {e f : Ent} {gen : Int} (hg : e.g.length ≤ 1000000000000000) (ht : e.t.length ≤ 1000000000000000) (hg' : f.g.length ≤ 1000000000000000) (ht' : f.t.length ≤ 1000000000000000) : CallOK Try.prog 13 [e.av, f.av, .int .i64 gen] [] 0 Tru := by
  refine callOK Try.call13 Try.func13 Try.ntmps13 rfl ?_
  conv => arg 4; whnf
  refine holds_args (args' := [_, .sl .none 0 (ints [(e.t.length : Int), (f.g.length : Int), (f.t.length : Int)])]) ⟨Le.refl _ _, Le.none, trivial⟩ ?_
  refine call0E (sumE (n := (e.g.length : Int)) (x := (e.t.length : Int)) (xs := [(f.g.length : Int), (f.t.length : Int)]) ⟨by omega, by omega⟩ (by intro y hy; simp at hy; omega) (by simp)) (ClL.cons (Cl.int _ _) (ClL.cons (Cl.intsV _) ClL.nil)) (fun x => by (repeat' (first | with_reducible assumption | exact ClL.nil | exact Cl.int _ _ | exact Cl.bool _ | exact Cl.bl _ | exact Cl.bs _ | exact Cl.str _ | exact Cl.nils | exact Cl.nilp | exact Cl.rec _ | exact Cl.bat _ | exact Cl.recsV _ | exact Cl.strsV _ | exact Cl.intsV _ | exact Cl.req _ | exact Cl.rsp _ | exact Cl.reqA _ | exact Cl.rspA _ | exact Cl.batsV _ | exact Cl.prsV _ | exact Cl.atsV _ | exact Cl.entA _ _ | exact Cl.ent _ | exact Cl.rr _ _ | exact Cl.foundA _ | exact Cl.getB _ | exact Cl.encA _ | exact Cl.firstA _ | refine ClL.cons ?_ ?_ | refine Cl.tup ?_ | refine Cl.agg ?_ | exact ClO.RO _ _))) fun v hv => ?_
  (conv => arg 4; whnf); repeat (refine ⟨rfl, ?_⟩; conv => arg 4; whnf)
  refine ⟨fun h => ?_, fun h => ?_⟩
  · (conv => arg 4; whnf); repeat (refine ⟨rfl, ?_⟩; conv => arg 4; whnf)
    refine call0 awake18 (by (repeat' (first | with_reducible assumption | exact ClL.nil | exact Cl.int _ _ | exact Cl.bool _ | exact Cl.bl _ | exact Cl.bs _ | exact Cl.str _ | exact Cl.nils | exact Cl.nilp | exact Cl.rec _ | exact Cl.bat _ | exact Cl.recsV _ | exact Cl.strsV _ | exact Cl.intsV _ | exact Cl.req _ | exact Cl.rsp _ | exact Cl.reqA _ | exact Cl.rspA _ | exact Cl.batsV _ | exact Cl.prsV _ | exact Cl.atsV _ | exact Cl.entA _ _ | exact Cl.ent _ | exact Cl.rr _ _ | exact Cl.foundA _ | exact Cl.getB _ | exact Cl.encA _ | exact Cl.firstA _ | refine ClL.cons ?_ ?_ | refine Cl.tup ?_ | refine Cl.agg ?_ | exact ClO.RO _ _))) (by (repeat' (first | with_reducible assumption | exact ClL.nil | exact Cl.int _ _ | exact Cl.bool _ | exact Cl.bl _ | exact Cl.bs _ | exact Cl.str _ | exact Cl.nils | exact Cl.nilp | exact Cl.rec _ | exact Cl.bat _ | exact Cl.recsV _ | exact Cl.strsV _ | exact Cl.intsV _ | exact Cl.req _ | exact Cl.rsp _ | exact Cl.reqA _ | exact Cl.rspA _ | exact Cl.batsV _ | exact Cl.prsV _ | exact Cl.atsV _ | exact Cl.entA _ _ | exact Cl.ent _ | exact Cl.rr _ _ | exact Cl.foundA _ | exact Cl.getB _ | exact Cl.encA _ | exact Cl.firstA _ | refine ClL.cons ?_ ?_ | refine Cl.tup ?_ | refine Cl.agg ?_ | exact ClO.RO _ _))) ?_
    (conv => arg 4; whnf); repeat (refine ⟨rfl, ?_⟩; conv => arg 4; whnf)
    exact .inl rfl
  · rw [← Bool.not_eq_true] at h; simp only [Bool.cond_true_left, Bool.cond_false_right, Bool.or_eq_true, Bool.and_eq_true, Bool.not_eq_true', decide_eq_true_eq, beq_iff_eq, bne_iff_ne, u8s_length, gt_iff_lt, ge_iff_le] at h
    have h2 := hv.2.2 (by omega)
    simp only [List.sum_cons, List.sum_nil] at h2
    have hgl : e.g.length ≤ 300 ∧ e.t.length ≤ 300 ∧ f.g.length ≤ 300 ∧ f.t.length ≤ 300 := by omega
    (conv => arg 4; whnf); repeat (refine ⟨rfl, ?_⟩; conv => arg 4; whnf)
    refine holds_out [] cmNew rfl trivial rfl ?_
    (conv => arg 4; whnf); repeat (refine ⟨rfl, ?_⟩; conv => arg 4; whnf)
    refine call0 made18 (ClL.cons (Cl.ent e) ClL.nil) (Cl.ent e) ?_
    (conv => arg 4; whnf); repeat (refine ⟨rfl, ?_⟩; conv => arg 4; whnf)
    by_cases h1 : mayE e = true
    rotate_left
    · have h1 : mayE e = false := by simpa using h1
      refine callTab 2 3 4 (m := []) (f := []) (cmPutNo (e := e) h1 (by omega) (by omega)) rfl rfl rfl rfl rfl rfl rfl rfl rfl ?_
      (conv => arg 4; whnf); repeat (refine ⟨rfl, ?_⟩; conv => arg 4; whnf)
      refine ⟨fun _ => ?_, fun h => absurd h (by first | (simp; done) | (simp [u8s]; done))⟩
      conv => arg 4; whnf
      (conv => arg 4; whnf); repeat (refine ⟨rfl, ?_⟩; conv => arg 4; whnf)
      refine call0 awake18 (by (repeat' (first | with_reducible assumption | exact ClL.nil | exact Cl.int _ _ | exact Cl.bool _ | exact Cl.bl _ | exact Cl.bs _ | exact Cl.str _ | exact Cl.nils | exact Cl.nilp | exact Cl.rec _ | exact Cl.bat _ | exact Cl.recsV _ | exact Cl.strsV _ | exact Cl.intsV _ | exact Cl.req _ | exact Cl.rsp _ | exact Cl.reqA _ | exact Cl.rspA _ | exact Cl.batsV _ | exact Cl.prsV _ | exact Cl.atsV _ | exact Cl.entA _ _ | exact Cl.ent _ | exact Cl.rr _ _ | exact Cl.foundA _ | exact Cl.getB _ | exact Cl.encA _ | exact Cl.firstA _ | refine ClL.cons ?_ ?_ | refine Cl.tup ?_ | refine Cl.agg ?_ | exact ClO.RO _ _))) (by (repeat' (first | with_reducible assumption | exact ClL.nil | exact Cl.int _ _ | exact Cl.bool _ | exact Cl.bl _ | exact Cl.bs _ | exact Cl.str _ | exact Cl.nils | exact Cl.nilp | exact Cl.rec _ | exact Cl.bat _ | exact Cl.recsV _ | exact Cl.strsV _ | exact Cl.intsV _ | exact Cl.req _ | exact Cl.rsp _ | exact Cl.reqA _ | exact Cl.rspA _ | exact Cl.batsV _ | exact Cl.prsV _ | exact Cl.atsV _ | exact Cl.entA _ _ | exact Cl.ent _ | exact Cl.rr _ _ | exact Cl.foundA _ | exact Cl.getB _ | exact Cl.encA _ | exact Cl.firstA _ | refine ClL.cons ?_ ?_ | refine Cl.tup ?_ | refine Cl.agg ?_ | exact ClO.RO _ _))) ?_
      (conv => arg 4; whnf); repeat (refine ⟨rfl, ?_⟩; conv => arg 4; whnf)
      exact .inl rfl
    refine callTab 2 3 4 (m := []) (f := []) (cmPutOk (e := e) h1) rfl rfl rfl rfl rfl rfl rfl rfl rfl ?_
    (conv => arg 4; whnf); repeat (refine ⟨rfl, ?_⟩; conv => arg 4; whnf)
    refine ⟨fun h => absurd h (by first | (simp; done) | (simp [u8s]; done)), fun _ => ?_⟩
    conv => arg 4; whnf
    refine call0 made18 (ClL.cons (Cl.ent f) ClL.nil) (Cl.ent f) ?_
    (conv => arg 4; whnf); repeat (refine ⟨rfl, ?_⟩; conv => arg 4; whnf)
    by_cases h2 : mayE f = true
    rotate_left
    · have h2 : mayE f = false := by simpa using h2
      refine callTab 2 3 4 (m := (setM [] (e.g, e.t, e.p) e.o)) (f := []) (cmPutNo (e := f) h2 (by omega) (by omega)) rfl rfl rfl rfl rfl rfl rfl rfl rfl ?_
      (conv => arg 4; whnf); repeat (refine ⟨rfl, ?_⟩; conv => arg 4; whnf)
      refine ⟨fun _ => ?_, fun h => absurd h (by first | (simp; done) | (simp [u8s]; done))⟩
      conv => arg 4; whnf
      (conv => arg 4; whnf); repeat (refine ⟨rfl, ?_⟩; conv => arg 4; whnf)
      refine call0 awake18 (by (repeat' (first | with_reducible assumption | exact ClL.nil | exact Cl.int _ _ | exact Cl.bool _ | exact Cl.bl _ | exact Cl.bs _ | exact Cl.str _ | exact Cl.nils | exact Cl.nilp | exact Cl.rec _ | exact Cl.bat _ | exact Cl.recsV _ | exact Cl.strsV _ | exact Cl.intsV _ | exact Cl.req _ | exact Cl.rsp _ | exact Cl.reqA _ | exact Cl.rspA _ | exact Cl.batsV _ | exact Cl.prsV _ | exact Cl.atsV _ | exact Cl.entA _ _ | exact Cl.ent _ | exact Cl.rr _ _ | exact Cl.foundA _ | exact Cl.getB _ | exact Cl.encA _ | exact Cl.firstA _ | refine ClL.cons ?_ ?_ | refine Cl.tup ?_ | refine Cl.agg ?_ | exact ClO.RO _ _))) (by (repeat' (first | with_reducible assumption | exact ClL.nil | exact Cl.int _ _ | exact Cl.bool _ | exact Cl.bl _ | exact Cl.bs _ | exact Cl.str _ | exact Cl.nils | exact Cl.nilp | exact Cl.rec _ | exact Cl.bat _ | exact Cl.recsV _ | exact Cl.strsV _ | exact Cl.intsV _ | exact Cl.req _ | exact Cl.rsp _ | exact Cl.reqA _ | exact Cl.rspA _ | exact Cl.batsV _ | exact Cl.prsV _ | exact Cl.atsV _ | exact Cl.entA _ _ | exact Cl.ent _ | exact Cl.rr _ _ | exact Cl.foundA _ | exact Cl.getB _ | exact Cl.encA _ | exact Cl.firstA _ | refine ClL.cons ?_ ?_ | refine Cl.tup ?_ | refine Cl.agg ?_ | exact ClO.RO _ _))) ?_
      (conv => arg 4; whnf); repeat (refine ⟨rfl, ?_⟩; conv => arg 4; whnf)
      exact .inl rfl
    refine callTab 2 3 4 (m := (setM [] (e.g, e.t, e.p) e.o)) (f := []) (cmPutOk (e := f) h2) rfl rfl rfl rfl rfl rfl rfl rfl rfl ?_
    (conv => arg 4; whnf); repeat (refine ⟨rfl, ?_⟩; conv => arg 4; whnf)
    refine ⟨fun h => absurd h (by first | (simp; done) | (simp [u8s]; done)), fun _ => ?_⟩
    conv => arg 4; whnf
    by_cases h3 : mayG e.g gen = true
    rotate_left
    · have h3 : mayG e.g gen = false := by simpa using h3
      refine callTab 2 3 4 (m := (setM (setM [] (e.g, e.t, e.p) e.o) (f.g, f.t, f.p) f.o)) (f := []) (cmGenNo (g := e.g) (n := gen) h3 (by omega)) rfl rfl rfl rfl rfl rfl rfl rfl rfl ?_
      (conv => arg 4; whnf); repeat (refine ⟨rfl, ?_⟩; conv => arg 4; whnf)
      refine ⟨fun _ => ?_, fun h => absurd h (by first | (simp; done) | (simp [u8s]; done))⟩
      conv => arg 4; whnf
      (conv => arg 4; whnf); repeat (refine ⟨rfl, ?_⟩; conv => arg 4; whnf)
      refine call0 awake18 (by (repeat' (first | with_reducible assumption | exact ClL.nil | exact Cl.int _ _ | exact Cl.bool _ | exact Cl.bl _ | exact Cl.bs _ | exact Cl.str _ | exact Cl.nils | exact Cl.nilp | exact Cl.rec _ | exact Cl.bat _ | exact Cl.recsV _ | exact Cl.strsV _ | exact Cl.intsV _ | exact Cl.req _ | exact Cl.rsp _ | exact Cl.reqA _ | exact Cl.rspA _ | exact Cl.batsV _ | exact Cl.prsV _ | exact Cl.atsV _ | exact Cl.entA _ _ | exact Cl.ent _ | exact Cl.rr _ _ | exact Cl.foundA _ | exact Cl.getB _ | exact Cl.encA _ | exact Cl.firstA _ | refine ClL.cons ?_ ?_ | refine Cl.tup ?_ | refine Cl.agg ?_ | exact ClO.RO _ _))) (by (repeat' (first | with_reducible assumption | exact ClL.nil | exact Cl.int _ _ | exact Cl.bool _ | exact Cl.bl _ | exact Cl.bs _ | exact Cl.str _ | exact Cl.nils | exact Cl.nilp | exact Cl.rec _ | exact Cl.bat _ | exact Cl.recsV _ | exact Cl.strsV _ | exact Cl.intsV _ | exact Cl.req _ | exact Cl.rsp _ | exact Cl.reqA _ | exact Cl.rspA _ | exact Cl.batsV _ | exact Cl.prsV _ | exact Cl.atsV _ | exact Cl.entA _ _ | exact Cl.ent _ | exact Cl.rr _ _ | exact Cl.foundA _ | exact Cl.getB _ | exact Cl.encA _ | exact Cl.firstA _ | refine ClL.cons ?_ ?_ | refine Cl.tup ?_ | refine Cl.agg ?_ | exact ClO.RO _ _))) ?_
      (conv => arg 4; whnf); repeat (refine ⟨rfl, ?_⟩; conv => arg 4; whnf)
      exact .inl rfl
    refine callTab 2 3 4 (m := (setM (setM [] (e.g, e.t, e.p) e.o) (f.g, f.t, f.p) f.o)) (f := []) (cmGenOk (g := e.g) (n := gen) h3) rfl rfl rfl rfl rfl rfl rfl rfl rfl ?_
    (conv => arg 4; whnf); repeat (refine ⟨rfl, ?_⟩; conv => arg 4; whnf)
    refine ⟨fun hk => ?_, fun hk => ?_⟩
    · (conv => arg 4; whnf); repeat (refine ⟨rfl, ?_⟩; conv => arg 4; whnf)
      refine call0 awake18 (by (repeat' (first | with_reducible assumption | exact ClL.nil | exact Cl.int _ _ | exact Cl.bool _ | exact Cl.bl _ | exact Cl.bs _ | exact Cl.str _ | exact Cl.nils | exact Cl.nilp | exact Cl.rec _ | exact Cl.bat _ | exact Cl.recsV _ | exact Cl.strsV _ | exact Cl.intsV _ | exact Cl.req _ | exact Cl.rsp _ | exact Cl.reqA _ | exact Cl.rspA _ | exact Cl.batsV _ | exact Cl.prsV _ | exact Cl.atsV _ | exact Cl.entA _ _ | exact Cl.ent _ | exact Cl.rr _ _ | exact Cl.foundA _ | exact Cl.getB _ | exact Cl.encA _ | exact Cl.firstA _ | refine ClL.cons ?_ ?_ | refine Cl.tup ?_ | refine Cl.agg ?_ | exact ClO.RO _ _))) (by (repeat' (first | with_reducible assumption | exact ClL.nil | exact Cl.int _ _ | exact Cl.bool _ | exact Cl.bl _ | exact Cl.bs _ | exact Cl.str _ | exact Cl.nils | exact Cl.nilp | exact Cl.rec _ | exact Cl.bat _ | exact Cl.recsV _ | exact Cl.strsV _ | exact Cl.intsV _ | exact Cl.req _ | exact Cl.rsp _ | exact Cl.reqA _ | exact Cl.rspA _ | exact Cl.batsV _ | exact Cl.prsV _ | exact Cl.atsV _ | exact Cl.entA _ _ | exact Cl.ent _ | exact Cl.rr _ _ | exact Cl.foundA _ | exact Cl.getB _ | exact Cl.encA _ | exact Cl.firstA _ | refine ClL.cons ?_ ?_ | refine Cl.tup ?_ | refine Cl.agg ?_ | exact ClO.RO _ _))) ?_
      (conv => arg 4; whnf); repeat (refine ⟨rfl, ?_⟩; conv => arg 4; whnf)
      exact .inl rfl
    · have hne : (f.g, f.t, f.p) ≠ (e.g, e.t, e.p) := fun h => by
        simp only [Prod.mk.injEq] at h
        rw [h.1, h.2.1, h.2.2] at hk
        simp at hk
      have h4 := mayG_nums h3
      have h5 : 0 ≤ gen := by
        unfold mayG at h3
        simp only [Bool.and_eq_true, decide_eq_true_eq] at h3
        omega
      have h6 : mayE ⟨e.g, e.t, e.p, 0⟩ = true := by
        unfold mayE place at h1 ⊢
        simp only [Bool.and_eq_true, decide_eq_true_eq] at h1 ⊢
        exact ⟨h1.1, by omega, by omega⟩
      have h7 : mayG e.g 0 = true := by
        unfold mayG at h3 ⊢
        simp only [Bool.and_eq_true, decide_eq_true_eq] at h3 ⊢
        exact ⟨h3.1, by omega, by omega⟩
      have hon : OnceM (setM (setM [] (e.g, e.t, e.p) e.o) (f.g, f.t, f.p) f.o) := once_set _ _ (once_set _ _ trivial)
      have hA : findM (delM (setM (setM [] (e.g, e.t, e.p) e.o) (f.g, f.t, f.p) f.o) (e.g, e.t, e.p)) (e.g, e.t, e.p) = none := by rw [find_del _ _ hon, if_pos rfl]
      have hB : findM (delM (setM (setM [] (e.g, e.t, e.p) e.o) (f.g, f.t, f.p) f.o) (e.g, e.t, e.p)) (f.g, f.t, f.p) = some f.o := by rw [find_del _ _ hon, if_neg hne, find_set, if_pos rfl]
      have hC : findM (setM [] e.g (max ((findM [] e.g).getD 0) gen)) e.g = some gen := by
        rw [find_set, if_pos rfl]
        show some (max 0 gen) = some gen
        congr 1
        omega
      have hoF : OnceM (setM [] e.g (max ((findM [] e.g).getD 0) gen)) := once_set _ _ (show OnceM ([] : List (List UInt8 × Int)) from trivial)
      have hD : findM (delM (setM [] e.g (max ((findM [] e.g).getD 0) gen)) e.g) e.g = none := by rw [find_del _ _ hoF, if_pos rfl]
      (conv => arg 4; whnf); repeat (refine ⟨rfl, ?_⟩; conv => arg 4; whnf)
      refine call0 made18 (ClL.cons (Cl.ent e) ClL.nil) (Cl.ent e) ?_
      (conv => arg 4; whnf); repeat (refine ⟨rfl, ?_⟩; conv => arg 4; whnf)
      refine call0 (cmRecordOk (e := e) (now := 0) h1 (by decide)) (ClL.cons (Cl.ent e) (ClL.cons (Cl.int _ _) ClL.nil)) (Cl.tup (ClL.cons (Cl.rec _) (ClL.cons (Cl.int _ _) ClL.nil))) ?_
      (conv => arg 4; whnf); repeat (refine ⟨rfl, ?_⟩; conv => arg 4; whnf)
      refine call0 (cmGenRecordOk (g := e.g) (n := gen) (now := 0) h3 (by decide)) (by (repeat' (first | with_reducible assumption | exact ClL.nil | exact Cl.int _ _ | exact Cl.bool _ | exact Cl.bl _ | exact Cl.bs _ | exact Cl.str _ | exact Cl.nils | exact Cl.nilp | exact Cl.rec _ | exact Cl.bat _ | exact Cl.recsV _ | exact Cl.strsV _ | exact Cl.intsV _ | exact Cl.req _ | exact Cl.rsp _ | exact Cl.reqA _ | exact Cl.rspA _ | exact Cl.batsV _ | exact Cl.prsV _ | exact Cl.atsV _ | exact Cl.entA _ _ | exact Cl.ent _ | exact Cl.rr _ _ | exact Cl.foundA _ | exact Cl.getB _ | exact Cl.encA _ | exact Cl.firstA _ | refine ClL.cons ?_ ?_ | refine Cl.tup ?_ | refine Cl.agg ?_ | exact ClO.RO _ _))) (Cl.tup (ClL.cons (Cl.rec _) (ClL.cons (Cl.int _ _) ClL.nil))) ?_
      (conv => arg 4; whnf); repeat (refine ⟨rfl, ?_⟩; conv => arg 4; whnf)
      refine ⟨fun h => absurd h (by first | (simp; done) | (simp [u8s]; done)), fun _ => ?_⟩
      conv => arg 4; whnf
      refine holds_args (args' := [.ptr 4 0, (⟨0, 0, true, keyO e, false, []⟩ : Rec).av]) ⟨Le.refl _ _, by (repeat' (first | with_reducible exact Le.refl _ _ | exact Le.bl | exact Le.lb | exact Le.nils | exact Le.nilsFull | exact Le.none | exact LeL.nil _ | refine LeL.cons ?_ ?_ | refine Le.tup ?_ | refine Le.agg ?_ | exact Le.refl _ _ | exact LeL.refl _ _)), trivial⟩ ?_
      refine callTab 2 3 4 (m := (setM (setM [] (e.g, e.t, e.p) e.o) (f.g, f.t, f.p) f.o)) (f := (setM [] e.g (max ((findM [] e.g).getD 0) gen))) (applyO (r := ⟨0, 0, true, keyO e, false, []⟩) (e := e) (hv := false) rfl rfl rfl (fun h => by cases h) h6) rfl rfl rfl rfl rfl rfl rfl (argsT (Cl.rec _)) rfl ?_
      (conv => arg 4; whnf); repeat (refine ⟨rfl, ?_⟩; conv => arg 4; whnf)
      refine ⟨fun h => absurd h (by first | (simp; done) | (simp [u8s]; done)), fun _ => ?_⟩
      conv => arg 4; whnf
      refine callTab 2 3 4 (m := (delM (setM (setM [] (e.g, e.t, e.p) e.o) (f.g, f.t, f.p) f.o) (e.g, e.t, e.p))) (f := (setM [] e.g (max ((findM [] e.g).getD 0) gen))) (cmGet (g := e.g) (t := e.t) (p := e.p)) rfl rfl rfl rfl rfl rfl rfl rfl rfl ?_
      (conv => arg 4; whnf); repeat (refine ⟨rfl, ?_⟩; conv => arg 4; whnf)
      refine callTab 2 3 4 (m := (delM (setM (setM [] (e.g, e.t, e.p) e.o) (f.g, f.t, f.p) f.o) (e.g, e.t, e.p))) (f := (setM [] e.g (max ((findM [] e.g).getD 0) gen))) (cmGet (g := f.g) (t := f.t) (p := f.p)) rfl rfl rfl rfl rfl rfl rfl rfl rfl ?_
      (conv => arg 4; whnf); repeat (refine ⟨rfl, ?_⟩; conv => arg 4; whnf)
      refine ⟨fun h' => absurd h' (by rw [hA, hB]; simp), fun _ => ?_⟩
      (conv => arg 4; whnf); repeat (refine ⟨rfl, ?_⟩; conv => arg 4; whnf)
      refine callTab 2 3 4 (m := (delM (setM (setM [] (e.g, e.t, e.p) e.o) (f.g, f.t, f.p) f.o) (e.g, e.t, e.p))) (f := (setM [] e.g (max ((findM [] e.g).getD 0) gen))) (cmFloor (g := e.g)) rfl rfl rfl rfl rfl rfl rfl rfl rfl ?_
      (conv => arg 4; whnf); repeat (refine ⟨rfl, ?_⟩; conv => arg 4; whnf)
      refine ⟨fun h' => absurd h' (by rw [hC]; simp), fun _ => ?_⟩
      (conv => arg 4; whnf); repeat (refine ⟨rfl, ?_⟩; conv => arg 4; whnf)
      refine holds_args (args' := [.ptr 4 0, (⟨0, 0, true, keyG e.g, false, []⟩ : Rec).av]) ⟨Le.refl _ _, by (repeat' (first | with_reducible exact Le.refl _ _ | exact Le.bl | exact Le.lb | exact Le.nils | exact Le.nilsFull | exact Le.none | exact LeL.nil _ | refine LeL.cons ?_ ?_ | refine Le.tup ?_ | refine Le.agg ?_ | exact Le.refl _ _ | exact LeL.refl _ _)), trivial⟩ ?_
      refine callTab 2 3 4 (m := (delM (setM (setM [] (e.g, e.t, e.p) e.o) (f.g, f.t, f.p) f.o) (e.g, e.t, e.p))) (f := (setM [] e.g (max ((findM [] e.g).getD 0) gen))) (applyG (r := ⟨0, 0, true, keyG e.g, false, []⟩) (g := e.g) (n := gen) (hv := false) rfl rfl rfl (fun h => by cases h) h7) rfl rfl rfl rfl rfl rfl rfl (argsT (Cl.rec _)) rfl ?_
      (conv => arg 4; whnf); repeat (refine ⟨rfl, ?_⟩; conv => arg 4; whnf)
      refine ⟨fun h => absurd h (by first | (simp; done) | (simp [u8s]; done)), fun _ => ?_⟩
      conv => arg 4; whnf
      refine callTab 2 3 4 (m := (delM (setM (setM [] (e.g, e.t, e.p) e.o) (f.g, f.t, f.p) f.o) (e.g, e.t, e.p))) (f := (delM (setM [] e.g (max ((findM [] e.g).getD 0) gen)) e.g)) (cmFloor (g := e.g)) rfl rfl rfl rfl rfl rfl rfl rfl rfl ?_
      (conv => arg 4; whnf); repeat (refine ⟨rfl, ?_⟩; conv => arg 4; whnf)
      refine ⟨fun h' => absurd h' (by rw [hD]; simp), fun _ => ?_⟩
      (conv => arg 4; whnf); repeat (refine ⟨rfl, ?_⟩; conv => arg 4; whnf)
      refine call0 made18 (ClL.cons (Cl.ent e) ClL.nil) (Cl.ent e) ?_
      (conv => arg 4; whnf); repeat (refine ⟨rfl, ?_⟩; conv => arg 4; whnf)
      refine callTab 2 3 4 (m := (delM (setM (setM [] (e.g, e.t, e.p) e.o) (f.g, f.t, f.p) f.o) (e.g, e.t, e.p))) (f := (delM (setM [] e.g (max ((findM [] e.g).getD 0) gen)) e.g)) (cmPutOk (e := e) h1) rfl rfl rfl rfl rfl rfl rfl rfl rfl ?_
      (conv => arg 4; whnf); repeat (refine ⟨rfl, ?_⟩; conv => arg 4; whnf)
      refine ⟨fun _ => ?_, fun h => absurd h (by first | (simp; done) | (simp [u8s]; done))⟩
      conv => arg 4; whnf
      have hnm : nm e.g = true := by
        unfold mayG at h3
        simp only [Bool.and_eq_true] at h3
        exact h3.1
      refine call0 (refTopic (s := e.g) (by omega)) (by (repeat' (first | with_reducible assumption | exact ClL.nil | exact Cl.int _ _ | exact Cl.bool _ | exact Cl.bl _ | exact Cl.bs _ | exact Cl.str _ | exact Cl.nils | exact Cl.nilp | exact Cl.rec _ | exact Cl.bat _ | exact Cl.recsV _ | exact Cl.strsV _ | exact Cl.intsV _ | exact Cl.req _ | exact Cl.rsp _ | exact Cl.reqA _ | exact Cl.rspA _ | exact Cl.batsV _ | exact Cl.prsV _ | exact Cl.atsV _ | exact Cl.entA _ _ | exact Cl.ent _ | exact Cl.rr _ _ | exact Cl.foundA _ | exact Cl.getB _ | exact Cl.encA _ | exact Cl.firstA _ | refine ClL.cons ?_ ?_ | refine Cl.tup ?_ | refine Cl.agg ?_ | exact ClO.RO _ _))) (by (repeat' (first | with_reducible assumption | exact ClL.nil | exact Cl.int _ _ | exact Cl.bool _ | exact Cl.bl _ | exact Cl.bs _ | exact Cl.str _ | exact Cl.nils | exact Cl.nilp | exact Cl.rec _ | exact Cl.bat _ | exact Cl.recsV _ | exact Cl.strsV _ | exact Cl.intsV _ | exact Cl.req _ | exact Cl.rsp _ | exact Cl.reqA _ | exact Cl.rspA _ | exact Cl.batsV _ | exact Cl.prsV _ | exact Cl.atsV _ | exact Cl.entA _ _ | exact Cl.ent _ | exact Cl.rr _ _ | exact Cl.foundA _ | exact Cl.getB _ | exact Cl.encA _ | exact Cl.firstA _ | refine ClL.cons ?_ ?_ | refine Cl.tup ?_ | refine Cl.agg ?_ | exact ClO.RO _ _))) ?_
      (conv => arg 4; whnf); repeat (refine ⟨rfl, ?_⟩; conv => arg 4; whnf)
      refine ⟨fun _ => ?_, fun h' => absurd (hnm.symm.trans h') (by decide)⟩
      (conv => arg 4; whnf); repeat (refine ⟨rfl, ?_⟩; conv => arg 4; whnf)
      refine call0 awake18 (by (repeat' (first | with_reducible assumption | exact ClL.nil | exact Cl.int _ _ | exact Cl.bool _ | exact Cl.bl _ | exact Cl.bs _ | exact Cl.str _ | exact Cl.nils | exact Cl.nilp | exact Cl.rec _ | exact Cl.bat _ | exact Cl.recsV _ | exact Cl.strsV _ | exact Cl.intsV _ | exact Cl.req _ | exact Cl.rsp _ | exact Cl.reqA _ | exact Cl.rspA _ | exact Cl.batsV _ | exact Cl.prsV _ | exact Cl.atsV _ | exact Cl.entA _ _ | exact Cl.ent _ | exact Cl.rr _ _ | exact Cl.foundA _ | exact Cl.getB _ | exact Cl.encA _ | exact Cl.firstA _ | refine ClL.cons ?_ ?_ | refine Cl.tup ?_ | refine Cl.agg ?_ | exact ClO.RO _ _))) (by (repeat' (first | with_reducible assumption | exact ClL.nil | exact Cl.int _ _ | exact Cl.bool _ | exact Cl.bl _ | exact Cl.bs _ | exact Cl.str _ | exact Cl.nils | exact Cl.nilp | exact Cl.rec _ | exact Cl.bat _ | exact Cl.recsV _ | exact Cl.strsV _ | exact Cl.intsV _ | exact Cl.req _ | exact Cl.rsp _ | exact Cl.reqA _ | exact Cl.rspA _ | exact Cl.batsV _ | exact Cl.prsV _ | exact Cl.atsV _ | exact Cl.entA _ _ | exact Cl.ent _ | exact Cl.rr _ _ | exact Cl.foundA _ | exact Cl.getB _ | exact Cl.encA _ | exact Cl.firstA _ | refine ClL.cons ?_ ?_ | refine Cl.tup ?_ | refine Cl.agg ?_ | exact ClO.RO _ _))) ?_
      (conv => arg 4; whnf); repeat (refine ⟨rfl, ?_⟩; conv => arg 4; whnf)
      exact .inl rfl
end Go.Proofs.Ytgkkggoanhaliaa.Cm

namespace Go.Proofs.Ytgkkggoanhaliaa.Cm
set_option maxRecDepth 100000
set_option maxHeartbeats 80000000
open Go.Sym

theorem inv0 (W : World) : Inv (F0 W) V0 [] W :=
  ⟨fun b o x h => h, fun id o hg => by simp [Go.Sym.get] at hg, fun id o b off hg => by simp [Go.Sym.get] at hg, fun id id' o o' b hg => by simp [Go.Sym.get] at hg⟩
theorem str_lt {s : List UInt8} (h : s.length ≤ reachBytes) : s.length ≤ 1000000000000000 := by
  unfold reachBytes at h
  omega
theorem ent_of {n : Nat} {l : List AV} (g : Sym.Good Try.prog n 87 l) : ∃ e : Ent, (e.g.length ≤ 1000000000000000 ∧ e.t.length ≤ 1000000000000000) ∧ Le [] (.agg l) e.av := by
  obtain ⟨m, g⟩ := Sym.Good.struct Try.underlying87 (by kernel_rfl) g
  obtain ⟨_, _, rfl, g1, _, _, rfl, g2, _, _, rfl, g3, _, _, rfl, g4, rfl⟩ := g
  obtain ⟨x1, rfl, w1⟩ := Sym.Good.str Try.underlying9 g1
  obtain ⟨x2, rfl, w2⟩ := Sym.Good.str Try.underlying9 g2
  obtain ⟨x3, rfl, w3⟩ := Sym.Good.int Try.underlying3 g3
  obtain ⟨x4, rfl, w4⟩ := Sym.Good.int Try.underlying3 g4
  exact ⟨⟨x1, x2, x3, x4⟩, ⟨str_lt w1, str_lt w2⟩, Le.refl _ _⟩
end Go.Proofs.Ytgkkggoanhaliaa.Cm
