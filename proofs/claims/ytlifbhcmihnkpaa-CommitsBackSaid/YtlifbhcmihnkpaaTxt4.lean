/-
  Records applied to a table, by the program.
-/
import Derived.Test.YtlifbhcmihnkpaaTxt3
import Derived.Test.YtlifbhcmihnkpaaTxt2
import Derived.Shelf.SlMaps.Clone
set_option linter.unusedVariables false
set_option linter.unusedSimpArgs false
namespace Go.Proofs.Ytlifbhcmihnkpaa.Cm
set_option maxRecDepth 100000
set_option maxHeartbeats 80000000
open Go.Sym

theorem rTxt {s r : List UInt8} (hs : s.length ≤ 20) (hr : r.length ≤ 100000) : CallOK Try.prog 32 [.ptr 0 0, .int .i64 20] [(0, RO (lenB s ++ r) 0)] 1 (Out (.str s) [(0, RO r 0)] 1) := by
  have hp := put_len (n := (s.length : Int)) (by unfold I64; omega)
  have h := rText (b := lenB s ++ r) (e := 0) (most := 20) (by simp only [lenB, List.length_append]; omega)
  have hb : bytesR (lenB s ++ r) 0 20 = (s, r, 0) := bytesR_put (by omega) (by omega)
  rw [hb] at h
  exact h
theorem rNm {n : Int} (hn : I64 n) : CallOK Try.prog 29 [.ptr 0 0] [(0, RO (put n) 0)] 1 (Out (.int .i64 n) [(0, RO [] 0)] 1) := by
  have hp := put_len hn
  have h := rNum (b := put n) (e := 0) (by omega)
  have hb : numR (put n) 0 = (n, [], 0) := by have := numR_put hn []; rwa [List.append_nil] at this
  rw [hb] at h
  exact h

theorem cmValNo {r : Rec} (h : r.hv = false) : CallOK Try.prog 98 [r.av] [] 0 (Out (.tup [.int .i64 0, .bool true]) [] 0) := by
  refine CallOK.fit (by decide) ?_
  refine callOK Try.call98 Try.func98 Try.ntmps98 rfl ?_
  conv => arg 4; whnf
  refine ⟨fun _ => ?_, fun h' => absurd h' (by rw [h]; decide)⟩
  (conv => arg 4; whnf); repeat (refine ⟨rfl, ?_⟩; conv => arg 4; whnf)
  exact ⟨by decide, by (repeat' (first | with_reducible exact Le.refl _ _ | exact Le.bl | exact Le.lb | exact Le.nils | exact Le.nilsFull | exact Le.none | exact LeL.nil _ | refine LeL.cons ?_ ?_ | refine Le.tup ?_ | refine Le.agg ?_ | exact Le.refl _ _ | exact LeL.refl _ _)), trivial, (by (repeat' (first | with_reducible assumption | exact ClL.nil | exact Cl.int _ _ | exact Cl.bool _ | exact Cl.bl _ | exact Cl.bs _ | exact Cl.str _ | exact Cl.nils | exact Cl.nilp | exact Cl.rec _ | exact Cl.bat _ | exact Cl.recsV _ | exact Cl.strsV _ | exact Cl.intsV _ | exact Cl.req _ | exact Cl.rsp _ | exact Cl.reqA _ | exact Cl.rspA _ | exact Cl.batsV _ | exact Cl.prsV _ | exact Cl.atsV _ | exact Cl.entA _ _ | exact Cl.ent _ | exact Cl.rr _ _ | exact Cl.foundA _ | exact Cl.getB _ | exact Cl.encA _ | exact Cl.firstA _ | refine ClL.cons ?_ ?_ | refine Cl.tup ?_ | refine Cl.agg ?_ | exact ClO.RO _ _)) : Cl _) _, trivial⟩
theorem cmVal {r : Rec} {n : Int} (h : r.hv = true) (hv : r.val = put n) (hn : I64 n) : CallOK Try.prog 98 [r.av] [] 0 (Out (.tup [.int .i64 n, .bool true]) [] 0) := by
  have hp := put_len hn
  refine CallOK.fit (by decide) ?_
  refine callOK Try.call98 Try.func98 Try.ntmps98 rfl ?_
  conv => arg 4; whnf
  refine ⟨fun h' => absurd h' (by rw [h]; decide), fun _ => ?_⟩
  (conv => arg 4; whnf); repeat (refine ⟨rfl, ?_⟩; conv => arg 4; whnf)
  refine holds_args (args' := [bs (put n)]) ⟨Le.of_eq (congrArg bs hv), trivial⟩ ?_
  refine callNew (newReader (b := put n) (by omega)) (ClL.cons (Cl.bs _) ClL.nil) (ClO.RO _ _) ?_
  (conv => arg 4; whnf); repeat (refine ⟨rfl, ?_⟩; conv => arg 4; whnf)
  refine call1 1 (rNm hn) rfl rfl (ClO.RO _ _) (ClO.RO _ _) rfl (Cl.int _ _) ?_
  (conv => arg 4; whnf); repeat (refine ⟨rfl, ?_⟩; conv => arg 4; whnf)
  refine call1 1 rErr rfl rfl (ClO.RO _ _) (ClO.RO _ _) rfl (Cl.int _ _) ?_
  (conv => arg 4; whnf); repeat (refine ⟨rfl, ?_⟩; conv => arg 4; whnf)
  refine ⟨fun _ => ?_, fun h => absurd h (by first | (simp; done) | (simp [u8s]; done))⟩
  conv => arg 4; whnf
  refine call1 1 rLeft rfl rfl (ClO.RO _ _) (ClO.RO _ _) rfl (Cl.int _ _) ?_
  (conv => arg 4; whnf); repeat (refine ⟨rfl, ?_⟩; conv => arg 4; whnf)
  exact ⟨by decide, by (repeat' (first | with_reducible exact Le.refl _ _ | exact Le.bl | exact Le.lb | exact Le.nils | exact Le.nilsFull | exact Le.none | exact LeL.nil _ | refine LeL.cons ?_ ?_ | refine Le.tup ?_ | refine Le.agg ?_ | exact Le.refl _ _ | exact LeL.refl _ _)), trivial, (by (repeat' (first | with_reducible assumption | exact ClL.nil | exact Cl.int _ _ | exact Cl.bool _ | exact Cl.bl _ | exact Cl.bs _ | exact Cl.str _ | exact Cl.nils | exact Cl.nilp | exact Cl.rec _ | exact Cl.bat _ | exact Cl.recsV _ | exact Cl.strsV _ | exact Cl.intsV _ | exact Cl.req _ | exact Cl.rsp _ | exact Cl.reqA _ | exact Cl.rspA _ | exact Cl.batsV _ | exact Cl.prsV _ | exact Cl.atsV _ | exact Cl.entA _ _ | exact Cl.ent _ | exact Cl.rr _ _ | exact Cl.foundA _ | exact Cl.getB _ | exact Cl.encA _ | exact Cl.firstA _ | refine ClL.cons ?_ ?_ | refine Cl.tup ?_ | refine Cl.agg ?_ | exact ClO.RO _ _)) : Cl _) _, trivial⟩
theorem cmPutOk {m : List (MK × Int)} {f : List (List UInt8 × Int)} {e : Ent} (h : mayE e = true) : CallOK Try.prog 47 [.ptr 2 0, e.av] (TH m f) 3 (Out (.int .i64 0) (TH (setM m (e.g, e.t, e.p) e.o) f) 3) := by
  have hn := mayE_nums h
  have c := cmPut (m := m) (f := f) (e := e) (by omega) (by omega)
  simp only [h, if_true] at c
  exact c
theorem cmGenOk {m : List (MK × Int)} {f : List (List UInt8 × Int)} {g : List UInt8} {n : Int} (h : mayG g n = true) : CallOK Try.prog 48 [.ptr 2 0, .str g, .int .i64 n] (TH m f) 3 (Out (.int .i64 0) (TH m (setM f g (max ((findM f g).getD 0) n))) 3) := by
  have hn := mayG_nums h
  have c := cmGen (m := m) (f := f) (g := g) (n := n) (by omega)
  simp only [h, if_true] at c
  exact c

theorem applyO {m : List (MK × Int)} {f : List (List UInt8 × Int)} {r : Rec} {e : Ent} {hv : Bool} (hk : r.hk = true) (hkey : r.key = keyO e) (hhv : r.hv = hv) (hval : hv = true → r.val = put e.o ∧ mayE e = true) (hpl : mayE ⟨e.g, e.t, e.p, 0⟩ = true) : CallOK Try.prog 49 [.ptr 2 0, r.av] (TH m f) 3 (Out (.int .i64 0) (TH (if hv then setM m (e.g, e.t, e.p) e.o else delM m (e.g, e.t, e.p)) f) 3) := by
  obtain ⟨i1, -, l1, l2⟩ := mayE_nums hpl
  have i1 : I64 e.p := i1
  have l1 : e.g.length ≤ 20 := l1
  have l2 : e.t.length ≤ 20 := l2
  have p1 := put_len i1
  have p2 := put_len (n := (e.g.length : Int)) (by unfold I64; omega)
  have p3 := put_len (n := (e.t.length : Int)) (by unfold I64; omega)
  have e1 : keyO e = lenB [111] ++ (lenB e.g ++ (lenB e.t ++ put e.p)) := by simp only [keyO, List.append_assoc]
  have hkl : (keyO e).length ≤ 1000 := by
    have q1 : (put ([111] : List UInt8).length).length ≤ 10 := put_len (by unfold I64; decide)
    simp only [keyO, lenB, List.length_append, List.length_cons, List.length_nil] at *
    omega
  refine CallOK.fit (by decide) ?_
  refine callOK Try.call49 Try.func49 Try.ntmps49 rfl ?_
  conv => arg 4; whnf
  refine callTab 0 1 2 (cmNone (m := m) (f := f)) rfl rfl rfl rfl rfl rfl rfl rfl rfl ?_
  (conv => arg 4; whnf); repeat (refine ⟨rfl, ?_⟩; conv => arg 4; whnf)
  refine holds_args (args' := [bs (lenB [111] ++ (lenB e.g ++ (lenB e.t ++ put e.p)))]) ⟨Le.of_eq (congrArg bs (by rw [hkey, e1])), trivial⟩ ?_
  refine callNew (newReader (b := lenB [111] ++ (lenB e.g ++ (lenB e.t ++ put e.p))) (by rw [← e1]; omega)) (ClL.cons (Cl.bs _) ClL.nil) (ClO.RO _ _) ?_
  (conv => arg 4; whnf); repeat (refine ⟨rfl, ?_⟩; conv => arg 4; whnf)
  refine call1 4 (rTxt (s := [111]) (r := lenB e.g ++ (lenB e.t ++ put e.p)) (by decide) (by rw [e1] at hkl; simp only [List.length_append] at hkl ⊢; omega)) rfl rfl (ClO.RO _ _) (ClO.RO _ _) rfl (Cl.str _) ?_
  (conv => arg 4; whnf); repeat (refine ⟨rfl, ?_⟩; conv => arg 4; whnf)
  refine call1 4 (rTxt (s := e.g) (r := lenB e.t ++ put e.p) l1 (by rw [e1] at hkl; simp only [List.length_append] at hkl ⊢; omega)) rfl rfl (ClO.RO _ _) (ClO.RO _ _) rfl (Cl.str _) ?_
  (conv => arg 4; whnf); repeat (refine ⟨rfl, ?_⟩; conv => arg 4; whnf)
  refine ⟨fun _ => ?_, fun h => absurd h (by first | (simp; done) | (simp [u8s]; done))⟩
  conv => arg 4; whnf
  refine call1 4 (rTxt (s := e.t) (r := put e.p) l2 (by omega)) rfl rfl (ClO.RO _ _) (ClO.RO _ _) rfl (Cl.str _) ?_
  (conv => arg 4; whnf); repeat (refine ⟨rfl, ?_⟩; conv => arg 4; whnf)
  refine call1 4 (rNm i1) rfl rfl (ClO.RO _ _) (ClO.RO _ _) rfl (Cl.int _ _) ?_
  (conv => arg 4; whnf); repeat (refine ⟨rfl, ?_⟩; conv => arg 4; whnf)
  cases hv
  · refine call0 (cmValNo hhv) (by (repeat' (first | with_reducible assumption | exact ClL.nil | exact Cl.int _ _ | exact Cl.bool _ | exact Cl.bl _ | exact Cl.bs _ | exact Cl.str _ | exact Cl.nils | exact Cl.nilp | exact Cl.rec _ | exact Cl.bat _ | exact Cl.recsV _ | exact Cl.strsV _ | exact Cl.intsV _ | exact Cl.req _ | exact Cl.rsp _ | exact Cl.reqA _ | exact Cl.rspA _ | exact Cl.batsV _ | exact Cl.prsV _ | exact Cl.atsV _ | exact Cl.entA _ _ | exact Cl.ent _ | exact Cl.rr _ _ | exact Cl.foundA _ | exact Cl.getB _ | exact Cl.encA _ | exact Cl.firstA _ | refine ClL.cons ?_ ?_ | refine Cl.tup ?_ | refine Cl.agg ?_ | exact ClO.RO _ _))) (by (repeat' (first | with_reducible assumption | exact ClL.nil | exact Cl.int _ _ | exact Cl.bool _ | exact Cl.bl _ | exact Cl.bs _ | exact Cl.str _ | exact Cl.nils | exact Cl.nilp | exact Cl.rec _ | exact Cl.bat _ | exact Cl.recsV _ | exact Cl.strsV _ | exact Cl.intsV _ | exact Cl.req _ | exact Cl.rsp _ | exact Cl.reqA _ | exact Cl.rspA _ | exact Cl.batsV _ | exact Cl.prsV _ | exact Cl.atsV _ | exact Cl.entA _ _ | exact Cl.ent _ | exact Cl.rr _ _ | exact Cl.foundA _ | exact Cl.getB _ | exact Cl.encA _ | exact Cl.firstA _ | refine ClL.cons ?_ ?_ | refine Cl.tup ?_ | refine Cl.agg ?_ | exact ClO.RO _ _))) ?_
    (conv => arg 4; whnf); repeat (refine ⟨rfl, ?_⟩; conv => arg 4; whnf)
    refine ⟨fun h' => absurd h' (by simp [hk]), fun _ => ?_⟩
    (conv => arg 4; whnf); repeat (refine ⟨rfl, ?_⟩; conv => arg 4; whnf)
    refine call1 4 rErr rfl rfl (ClO.RO _ _) (ClO.RO _ _) rfl (Cl.int _ _) ?_
    (conv => arg 4; whnf); repeat (refine ⟨rfl, ?_⟩; conv => arg 4; whnf)
    refine ⟨fun h => absurd h (by first | (simp; done) | (simp [u8s]; done)), fun _ => ?_⟩
    conv => arg 4; whnf
    refine call1 4 rLeft rfl rfl (ClO.RO _ _) (ClO.RO _ _) rfl (Cl.int _ _) ?_
    (conv => arg 4; whnf); repeat (refine ⟨rfl, ?_⟩; conv => arg 4; whnf)
    refine ⟨fun h => absurd h (by first | (simp; done) | (simp [u8s]; done)), fun _ => ?_⟩
    conv => arg 4; whnf
    refine ⟨fun _ => ?_, fun h => absurd h (by first | (simp; done) | (simp [u8s]; done))⟩
    conv => arg 4; whnf
    refine holds_args (args' := [(⟨e.g, e.t, e.p, 0⟩ : Ent).av]) ⟨Le.refl _ _, trivial⟩ ?_
    refine call0 (cmMay (e := ⟨e.g, e.t, e.p, 0⟩) (by show e.g.length ≤ 1000000; omega) (by show e.t.length ≤ 1000000; omega)) (ClL.cons (Cl.ent _) ClL.nil) (by (repeat' (first | with_reducible assumption | exact ClL.nil | exact Cl.int _ _ | exact Cl.bool _ | exact Cl.bl _ | exact Cl.bs _ | exact Cl.str _ | exact Cl.nils | exact Cl.nilp | exact Cl.rec _ | exact Cl.bat _ | exact Cl.recsV _ | exact Cl.strsV _ | exact Cl.intsV _ | exact Cl.req _ | exact Cl.rsp _ | exact Cl.reqA _ | exact Cl.rspA _ | exact Cl.batsV _ | exact Cl.prsV _ | exact Cl.atsV _ | exact Cl.entA _ _ | exact Cl.ent _ | exact Cl.rr _ _ | exact Cl.foundA _ | exact Cl.getB _ | exact Cl.encA _ | exact Cl.firstA _ | refine ClL.cons ?_ ?_ | refine Cl.tup ?_ | refine Cl.agg ?_ | exact ClO.RO _ _))) ?_
    (conv => arg 4; whnf); repeat (refine ⟨rfl, ?_⟩; conv => arg 4; whnf)
    refine ⟨fun h' => absurd h' (by rw [hpl, hhv]; decide), fun _ => ?_⟩
    (conv => arg 4; whnf); repeat (refine ⟨rfl, ?_⟩; conv => arg 4; whnf)
    refine ⟨fun _ => ?_, fun h => absurd h (by first | (simp; done) | (simp [u8s]; done))⟩
    conv => arg 4; whnf
    refine holds_args (args' := [(⟨e.g, e.t, e.p, 0⟩ : Ent).av]) ⟨Le.refl _ _, trivial⟩ ?_
    refine call0 (cmMay (e := ⟨e.g, e.t, e.p, 0⟩) (by show e.g.length ≤ 1000000; omega) (by show e.t.length ≤ 1000000; omega)) (ClL.cons (Cl.ent _) ClL.nil) (by (repeat' (first | with_reducible assumption | exact ClL.nil | exact Cl.int _ _ | exact Cl.bool _ | exact Cl.bl _ | exact Cl.bs _ | exact Cl.str _ | exact Cl.nils | exact Cl.nilp | exact Cl.rec _ | exact Cl.bat _ | exact Cl.recsV _ | exact Cl.strsV _ | exact Cl.intsV _ | exact Cl.req _ | exact Cl.rsp _ | exact Cl.reqA _ | exact Cl.rspA _ | exact Cl.batsV _ | exact Cl.prsV _ | exact Cl.atsV _ | exact Cl.entA _ _ | exact Cl.ent _ | exact Cl.rr _ _ | exact Cl.foundA _ | exact Cl.getB _ | exact Cl.encA _ | exact Cl.firstA _ | refine ClL.cons ?_ ?_ | refine Cl.tup ?_ | refine Cl.agg ?_ | exact ClO.RO _ _))) ?_
    (conv => arg 4; whnf); repeat (refine ⟨rfl, ?_⟩; conv => arg 4; whnf)
    refine ⟨fun _ => ?_, fun h' => absurd (hpl.symm.trans h') (by decide)⟩
    (conv => arg 4; whnf); repeat (refine ⟨rfl, ?_⟩; conv => arg 4; whnf)
    refine callTab 0 1 2 (cmDrop (m := m) (f := f) (e := ⟨e.g, e.t, e.p, 0⟩)) rfl rfl rfl rfl rfl rfl rfl rfl rfl ?_
    (conv => arg 4; whnf); repeat (refine ⟨rfl, ?_⟩; conv => arg 4; whnf)
    exact ⟨by decide, Le.refl _ _, ⟨⟨_, rfl, LeO.refl _ _⟩, ⟨_, rfl, LeO.refl _ _⟩, ⟨_, rfl, LeO.refl _ _⟩, trivial⟩, (by (repeat' (first | with_reducible assumption | exact ClL.nil | exact Cl.int _ _ | exact Cl.bool _ | exact Cl.bl _ | exact Cl.bs _ | exact Cl.str _ | exact Cl.nils | exact Cl.nilp | exact Cl.rec _ | exact Cl.bat _ | exact Cl.recsV _ | exact Cl.strsV _ | exact Cl.intsV _ | exact Cl.req _ | exact Cl.rsp _ | exact Cl.reqA _ | exact Cl.rspA _ | exact Cl.batsV _ | exact Cl.prsV _ | exact Cl.atsV _ | exact Cl.entA _ _ | exact Cl.ent _ | exact Cl.rr _ _ | exact Cl.foundA _ | exact Cl.getB _ | exact Cl.encA _ | exact Cl.firstA _ | refine ClL.cons ?_ ?_ | refine Cl.tup ?_ | refine Cl.agg ?_ | exact ClO.RO _ _)) : Cl _) _, ⟨⟨by decide, rfl⟩, ⟨by decide, ClO.fE _ _⟩, ⟨by decide, ClO.mE _ _⟩, trivial⟩⟩
  · refine call0 (cmVal hhv (hval rfl).1 (mayE_nums (hval rfl).2).2.1) (by (repeat' (first | with_reducible assumption | exact ClL.nil | exact Cl.int _ _ | exact Cl.bool _ | exact Cl.bl _ | exact Cl.bs _ | exact Cl.str _ | exact Cl.nils | exact Cl.nilp | exact Cl.rec _ | exact Cl.bat _ | exact Cl.recsV _ | exact Cl.strsV _ | exact Cl.intsV _ | exact Cl.req _ | exact Cl.rsp _ | exact Cl.reqA _ | exact Cl.rspA _ | exact Cl.batsV _ | exact Cl.prsV _ | exact Cl.atsV _ | exact Cl.entA _ _ | exact Cl.ent _ | exact Cl.rr _ _ | exact Cl.foundA _ | exact Cl.getB _ | exact Cl.encA _ | exact Cl.firstA _ | refine ClL.cons ?_ ?_ | refine Cl.tup ?_ | refine Cl.agg ?_ | exact ClO.RO _ _))) (by (repeat' (first | with_reducible assumption | exact ClL.nil | exact Cl.int _ _ | exact Cl.bool _ | exact Cl.bl _ | exact Cl.bs _ | exact Cl.str _ | exact Cl.nils | exact Cl.nilp | exact Cl.rec _ | exact Cl.bat _ | exact Cl.recsV _ | exact Cl.strsV _ | exact Cl.intsV _ | exact Cl.req _ | exact Cl.rsp _ | exact Cl.reqA _ | exact Cl.rspA _ | exact Cl.batsV _ | exact Cl.prsV _ | exact Cl.atsV _ | exact Cl.entA _ _ | exact Cl.ent _ | exact Cl.rr _ _ | exact Cl.foundA _ | exact Cl.getB _ | exact Cl.encA _ | exact Cl.firstA _ | refine ClL.cons ?_ ?_ | refine Cl.tup ?_ | refine Cl.agg ?_ | exact ClO.RO _ _))) ?_
    (conv => arg 4; whnf); repeat (refine ⟨rfl, ?_⟩; conv => arg 4; whnf)
    refine ⟨fun h' => absurd h' (by simp [hk]), fun _ => ?_⟩
    (conv => arg 4; whnf); repeat (refine ⟨rfl, ?_⟩; conv => arg 4; whnf)
    refine call1 4 rErr rfl rfl (ClO.RO _ _) (ClO.RO _ _) rfl (Cl.int _ _) ?_
    (conv => arg 4; whnf); repeat (refine ⟨rfl, ?_⟩; conv => arg 4; whnf)
    refine ⟨fun h => absurd h (by first | (simp; done) | (simp [u8s]; done)), fun _ => ?_⟩
    conv => arg 4; whnf
    refine call1 4 rLeft rfl rfl (ClO.RO _ _) (ClO.RO _ _) rfl (Cl.int _ _) ?_
    (conv => arg 4; whnf); repeat (refine ⟨rfl, ?_⟩; conv => arg 4; whnf)
    refine ⟨fun h => absurd h (by first | (simp; done) | (simp [u8s]; done)), fun _ => ?_⟩
    conv => arg 4; whnf
    refine ⟨fun _ => ?_, fun h => absurd h (by first | (simp; done) | (simp [u8s]; done))⟩
    conv => arg 4; whnf
    refine holds_args (args' := [(⟨e.g, e.t, e.p, e.o⟩ : Ent).av]) ⟨Le.refl _ _, trivial⟩ ?_
    refine call0 (cmMay (e := ⟨e.g, e.t, e.p, e.o⟩) (by show e.g.length ≤ 1000000; omega) (by show e.t.length ≤ 1000000; omega)) (ClL.cons (Cl.ent _) ClL.nil) (by (repeat' (first | with_reducible assumption | exact ClL.nil | exact Cl.int _ _ | exact Cl.bool _ | exact Cl.bl _ | exact Cl.bs _ | exact Cl.str _ | exact Cl.nils | exact Cl.nilp | exact Cl.rec _ | exact Cl.bat _ | exact Cl.recsV _ | exact Cl.strsV _ | exact Cl.intsV _ | exact Cl.req _ | exact Cl.rsp _ | exact Cl.reqA _ | exact Cl.rspA _ | exact Cl.batsV _ | exact Cl.prsV _ | exact Cl.atsV _ | exact Cl.entA _ _ | exact Cl.ent _ | exact Cl.rr _ _ | exact Cl.foundA _ | exact Cl.getB _ | exact Cl.encA _ | exact Cl.firstA _ | refine ClL.cons ?_ ?_ | refine Cl.tup ?_ | refine Cl.agg ?_ | exact ClO.RO _ _))) ?_
    (conv => arg 4; whnf); repeat (refine ⟨rfl, ?_⟩; conv => arg 4; whnf)
    refine ⟨fun _ => ?_, fun h' => absurd h' (by rw [show mayE ⟨e.g, e.t, e.p, e.o⟩ = true from (hval rfl).2, hhv]; decide)⟩
    (conv => arg 4; whnf); repeat (refine ⟨rfl, ?_⟩; conv => arg 4; whnf)
    refine callTab 0 1 2 (cmPutOk (m := m) (f := f) (hval rfl).2) rfl rfl rfl rfl rfl rfl rfl rfl rfl ?_
    (conv => arg 4; whnf); repeat (refine ⟨rfl, ?_⟩; conv => arg 4; whnf)
    exact ⟨by decide, Le.refl _ _, ⟨⟨_, rfl, LeO.refl _ _⟩, ⟨_, rfl, LeO.refl _ _⟩, ⟨_, rfl, LeO.refl _ _⟩, trivial⟩, (by (repeat' (first | with_reducible assumption | exact ClL.nil | exact Cl.int _ _ | exact Cl.bool _ | exact Cl.bl _ | exact Cl.bs _ | exact Cl.str _ | exact Cl.nils | exact Cl.nilp | exact Cl.rec _ | exact Cl.bat _ | exact Cl.recsV _ | exact Cl.strsV _ | exact Cl.intsV _ | exact Cl.req _ | exact Cl.rsp _ | exact Cl.reqA _ | exact Cl.rspA _ | exact Cl.batsV _ | exact Cl.prsV _ | exact Cl.atsV _ | exact Cl.entA _ _ | exact Cl.ent _ | exact Cl.rr _ _ | exact Cl.foundA _ | exact Cl.getB _ | exact Cl.encA _ | exact Cl.firstA _ | refine ClL.cons ?_ ?_ | refine Cl.tup ?_ | refine Cl.agg ?_ | exact ClO.RO _ _)) : Cl _) _, ⟨⟨by decide, rfl⟩, ⟨by decide, ClO.fE _ _⟩, ⟨by decide, ClO.mE _ _⟩, trivial⟩⟩

theorem applyG {m : List (MK × Int)} {f : List (List UInt8 × Int)} {r : Rec} {g : List UInt8} {n : Int} {hv : Bool} (hk : r.hk = true) (hkey : r.key = keyG g) (hhv : r.hv = hv) (hval : hv = true → r.val = put n ∧ mayG g n = true) (hpl : mayG g 0 = true) : CallOK Try.prog 49 [.ptr 2 0, r.av] (TH m f) 3 (Out (.int .i64 0) (TH m (if hv then setM f g (max ((findM f g).getD 0) n) else delM f g)) 3) := by
  obtain ⟨-, l1⟩ := mayG_nums hpl
  have p2 := put_len (n := (g.length : Int)) (by unfold I64; omega)
  have e1 : keyG g = lenB [103] ++ (lenB g ++ []) := by simp only [keyG, List.append_nil]
  have hkl : (keyG g).length ≤ 1000 := by
    have q1 : (put ([103] : List UInt8).length).length ≤ 10 := put_len (by unfold I64; decide)
    simp only [keyG, lenB, List.length_append, List.length_cons, List.length_nil] at *
    omega
  refine CallOK.fit (by decide) ?_
  refine callOK Try.call49 Try.func49 Try.ntmps49 rfl ?_
  conv => arg 4; whnf
  refine callTab 0 1 2 (cmNone (m := m) (f := f)) rfl rfl rfl rfl rfl rfl rfl rfl rfl ?_
  (conv => arg 4; whnf); repeat (refine ⟨rfl, ?_⟩; conv => arg 4; whnf)
  refine holds_args (args' := [bs (lenB [103] ++ (lenB g ++ []))]) ⟨Le.of_eq (congrArg bs (by rw [hkey, e1])), trivial⟩ ?_
  refine callNew (newReader (b := lenB [103] ++ (lenB g ++ [])) (by rw [← e1]; omega)) (ClL.cons (Cl.bs _) ClL.nil) (ClO.RO _ _) ?_
  (conv => arg 4; whnf); repeat (refine ⟨rfl, ?_⟩; conv => arg 4; whnf)
  refine call1 4 (rTxt (s := [103]) (r := lenB g ++ []) (by decide) (by rw [e1] at hkl; simp only [List.length_append] at hkl ⊢; omega)) rfl rfl (ClO.RO _ _) (ClO.RO _ _) rfl (Cl.str _) ?_
  (conv => arg 4; whnf); repeat (refine ⟨rfl, ?_⟩; conv => arg 4; whnf)
  refine call1 4 (rTxt (s := g) (r := []) l1 (by simp)) rfl rfl (ClO.RO _ _) (ClO.RO _ _) rfl (Cl.str _) ?_
  (conv => arg 4; whnf); repeat (refine ⟨rfl, ?_⟩; conv => arg 4; whnf)
  refine ⟨fun h => absurd h (by first | (simp; done) | (simp [u8s]; done)), fun _ => ?_⟩
  conv => arg 4; whnf
  cases hv
  · refine call0 (cmValNo hhv) (by (repeat' (first | with_reducible assumption | exact ClL.nil | exact Cl.int _ _ | exact Cl.bool _ | exact Cl.bl _ | exact Cl.bs _ | exact Cl.str _ | exact Cl.nils | exact Cl.nilp | exact Cl.rec _ | exact Cl.bat _ | exact Cl.recsV _ | exact Cl.strsV _ | exact Cl.intsV _ | exact Cl.req _ | exact Cl.rsp _ | exact Cl.reqA _ | exact Cl.rspA _ | exact Cl.batsV _ | exact Cl.prsV _ | exact Cl.atsV _ | exact Cl.entA _ _ | exact Cl.ent _ | exact Cl.rr _ _ | exact Cl.foundA _ | exact Cl.getB _ | exact Cl.encA _ | exact Cl.firstA _ | refine ClL.cons ?_ ?_ | refine Cl.tup ?_ | refine Cl.agg ?_ | exact ClO.RO _ _))) (by (repeat' (first | with_reducible assumption | exact ClL.nil | exact Cl.int _ _ | exact Cl.bool _ | exact Cl.bl _ | exact Cl.bs _ | exact Cl.str _ | exact Cl.nils | exact Cl.nilp | exact Cl.rec _ | exact Cl.bat _ | exact Cl.recsV _ | exact Cl.strsV _ | exact Cl.intsV _ | exact Cl.req _ | exact Cl.rsp _ | exact Cl.reqA _ | exact Cl.rspA _ | exact Cl.batsV _ | exact Cl.prsV _ | exact Cl.atsV _ | exact Cl.entA _ _ | exact Cl.ent _ | exact Cl.rr _ _ | exact Cl.foundA _ | exact Cl.getB _ | exact Cl.encA _ | exact Cl.firstA _ | refine ClL.cons ?_ ?_ | refine Cl.tup ?_ | refine Cl.agg ?_ | exact ClO.RO _ _))) ?_
    (conv => arg 4; whnf); repeat (refine ⟨rfl, ?_⟩; conv => arg 4; whnf)
    refine ⟨fun h' => absurd h' (by simp [hk]), fun _ => ?_⟩
    (conv => arg 4; whnf); repeat (refine ⟨rfl, ?_⟩; conv => arg 4; whnf)
    refine call1 4 rErr rfl rfl (ClO.RO _ _) (ClO.RO _ _) rfl (Cl.int _ _) ?_
    (conv => arg 4; whnf); repeat (refine ⟨rfl, ?_⟩; conv => arg 4; whnf)
    refine ⟨fun h => absurd h (by first | (simp; done) | (simp [u8s]; done)), fun _ => ?_⟩
    conv => arg 4; whnf
    refine call1 4 rLeft rfl rfl (ClO.RO _ _) (ClO.RO _ _) rfl (Cl.int _ _) ?_
    (conv => arg 4; whnf); repeat (refine ⟨rfl, ?_⟩; conv => arg 4; whnf)
    refine ⟨fun h => absurd h (by first | (simp; done) | (simp [u8s]; done)), fun _ => ?_⟩
    conv => arg 4; whnf
    refine ⟨fun h => absurd h (by first | (simp; done) | (simp [u8s]; done)), fun _ => ?_⟩
    conv => arg 4; whnf
    refine ⟨fun h => absurd h (by first | (simp; done) | (simp [u8s]; done)), fun _ => ?_⟩
    conv => arg 4; whnf
    refine ⟨fun _ => ?_, fun h => absurd h (by first | (simp; done) | (simp [u8s]; done))⟩
    conv => arg 4; whnf
    refine call0 (cmMayGen (g := g) (n := 0) (by omega)) (by (repeat' (first | with_reducible assumption | exact ClL.nil | exact Cl.int _ _ | exact Cl.bool _ | exact Cl.bl _ | exact Cl.bs _ | exact Cl.str _ | exact Cl.nils | exact Cl.nilp | exact Cl.rec _ | exact Cl.bat _ | exact Cl.recsV _ | exact Cl.strsV _ | exact Cl.intsV _ | exact Cl.req _ | exact Cl.rsp _ | exact Cl.reqA _ | exact Cl.rspA _ | exact Cl.batsV _ | exact Cl.prsV _ | exact Cl.atsV _ | exact Cl.entA _ _ | exact Cl.ent _ | exact Cl.rr _ _ | exact Cl.foundA _ | exact Cl.getB _ | exact Cl.encA _ | exact Cl.firstA _ | refine ClL.cons ?_ ?_ | refine Cl.tup ?_ | refine Cl.agg ?_ | exact ClO.RO _ _))) (by (repeat' (first | with_reducible assumption | exact ClL.nil | exact Cl.int _ _ | exact Cl.bool _ | exact Cl.bl _ | exact Cl.bs _ | exact Cl.str _ | exact Cl.nils | exact Cl.nilp | exact Cl.rec _ | exact Cl.bat _ | exact Cl.recsV _ | exact Cl.strsV _ | exact Cl.intsV _ | exact Cl.req _ | exact Cl.rsp _ | exact Cl.reqA _ | exact Cl.rspA _ | exact Cl.batsV _ | exact Cl.prsV _ | exact Cl.atsV _ | exact Cl.entA _ _ | exact Cl.ent _ | exact Cl.rr _ _ | exact Cl.foundA _ | exact Cl.getB _ | exact Cl.encA _ | exact Cl.firstA _ | refine ClL.cons ?_ ?_ | refine Cl.tup ?_ | refine Cl.agg ?_ | exact ClO.RO _ _))) ?_
    (conv => arg 4; whnf); repeat (refine ⟨rfl, ?_⟩; conv => arg 4; whnf)
    refine ⟨fun h' => absurd h' (by rw [hpl, hhv]; decide), fun _ => ?_⟩
    (conv => arg 4; whnf); repeat (refine ⟨rfl, ?_⟩; conv => arg 4; whnf)
    refine ⟨fun _ => ?_, fun h => absurd h (by first | (simp; done) | (simp [u8s]; done))⟩
    conv => arg 4; whnf
    refine call0 (cmMayGen (g := g) (n := 0) (by omega)) (by (repeat' (first | with_reducible assumption | exact ClL.nil | exact Cl.int _ _ | exact Cl.bool _ | exact Cl.bl _ | exact Cl.bs _ | exact Cl.str _ | exact Cl.nils | exact Cl.nilp | exact Cl.rec _ | exact Cl.bat _ | exact Cl.recsV _ | exact Cl.strsV _ | exact Cl.intsV _ | exact Cl.req _ | exact Cl.rsp _ | exact Cl.reqA _ | exact Cl.rspA _ | exact Cl.batsV _ | exact Cl.prsV _ | exact Cl.atsV _ | exact Cl.entA _ _ | exact Cl.ent _ | exact Cl.rr _ _ | exact Cl.foundA _ | exact Cl.getB _ | exact Cl.encA _ | exact Cl.firstA _ | refine ClL.cons ?_ ?_ | refine Cl.tup ?_ | refine Cl.agg ?_ | exact ClO.RO _ _))) (by (repeat' (first | with_reducible assumption | exact ClL.nil | exact Cl.int _ _ | exact Cl.bool _ | exact Cl.bl _ | exact Cl.bs _ | exact Cl.str _ | exact Cl.nils | exact Cl.nilp | exact Cl.rec _ | exact Cl.bat _ | exact Cl.recsV _ | exact Cl.strsV _ | exact Cl.intsV _ | exact Cl.req _ | exact Cl.rsp _ | exact Cl.reqA _ | exact Cl.rspA _ | exact Cl.batsV _ | exact Cl.prsV _ | exact Cl.atsV _ | exact Cl.entA _ _ | exact Cl.ent _ | exact Cl.rr _ _ | exact Cl.foundA _ | exact Cl.getB _ | exact Cl.encA _ | exact Cl.firstA _ | refine ClL.cons ?_ ?_ | refine Cl.tup ?_ | refine Cl.agg ?_ | exact ClO.RO _ _))) ?_
    (conv => arg 4; whnf); repeat (refine ⟨rfl, ?_⟩; conv => arg 4; whnf)
    refine ⟨fun _ => ?_, fun h' => absurd (hpl.symm.trans h') (by decide)⟩
    (conv => arg 4; whnf); repeat (refine ⟨rfl, ?_⟩; conv => arg 4; whnf)
    refine ⟨askF f g, ?_⟩
    (conv => arg 4; whnf); repeat (refine ⟨rfl, ?_⟩; conv => arg 4; whnf)
    simp only [Bool.false_eq_true, if_false]
    exact ⟨by decide, Le.refl _ _, ⟨⟨_, rfl, LeO.refl _ _⟩, ⟨_, rfl, by rw [← del_fE]; exact LeO.refl _ _⟩, ⟨_, rfl, LeO.refl _ _⟩, trivial⟩, (by (repeat' (first | with_reducible assumption | exact ClL.nil | exact Cl.int _ _ | exact Cl.bool _ | exact Cl.bl _ | exact Cl.bs _ | exact Cl.str _ | exact Cl.nils | exact Cl.nilp | exact Cl.rec _ | exact Cl.bat _ | exact Cl.recsV _ | exact Cl.strsV _ | exact Cl.intsV _ | exact Cl.req _ | exact Cl.rsp _ | exact Cl.reqA _ | exact Cl.rspA _ | exact Cl.batsV _ | exact Cl.prsV _ | exact Cl.atsV _ | exact Cl.entA _ _ | exact Cl.ent _ | exact Cl.rr _ _ | exact Cl.foundA _ | exact Cl.getB _ | exact Cl.encA _ | exact Cl.firstA _ | refine ClL.cons ?_ ?_ | refine Cl.tup ?_ | refine Cl.agg ?_ | exact ClO.RO _ _)) : Cl _) _, ⟨⟨by decide, rfl⟩, ⟨by decide, ClO.fE _ _⟩, ⟨by decide, ClO.mE _ _⟩, trivial⟩⟩
  · refine call0 (cmVal hhv (hval rfl).1 (mayG_nums (hval rfl).2).1) (by (repeat' (first | with_reducible assumption | exact ClL.nil | exact Cl.int _ _ | exact Cl.bool _ | exact Cl.bl _ | exact Cl.bs _ | exact Cl.str _ | exact Cl.nils | exact Cl.nilp | exact Cl.rec _ | exact Cl.bat _ | exact Cl.recsV _ | exact Cl.strsV _ | exact Cl.intsV _ | exact Cl.req _ | exact Cl.rsp _ | exact Cl.reqA _ | exact Cl.rspA _ | exact Cl.batsV _ | exact Cl.prsV _ | exact Cl.atsV _ | exact Cl.entA _ _ | exact Cl.ent _ | exact Cl.rr _ _ | exact Cl.foundA _ | exact Cl.getB _ | exact Cl.encA _ | exact Cl.firstA _ | refine ClL.cons ?_ ?_ | refine Cl.tup ?_ | refine Cl.agg ?_ | exact ClO.RO _ _))) (by (repeat' (first | with_reducible assumption | exact ClL.nil | exact Cl.int _ _ | exact Cl.bool _ | exact Cl.bl _ | exact Cl.bs _ | exact Cl.str _ | exact Cl.nils | exact Cl.nilp | exact Cl.rec _ | exact Cl.bat _ | exact Cl.recsV _ | exact Cl.strsV _ | exact Cl.intsV _ | exact Cl.req _ | exact Cl.rsp _ | exact Cl.reqA _ | exact Cl.rspA _ | exact Cl.batsV _ | exact Cl.prsV _ | exact Cl.atsV _ | exact Cl.entA _ _ | exact Cl.ent _ | exact Cl.rr _ _ | exact Cl.foundA _ | exact Cl.getB _ | exact Cl.encA _ | exact Cl.firstA _ | refine ClL.cons ?_ ?_ | refine Cl.tup ?_ | refine Cl.agg ?_ | exact ClO.RO _ _))) ?_
    (conv => arg 4; whnf); repeat (refine ⟨rfl, ?_⟩; conv => arg 4; whnf)
    refine ⟨fun h' => absurd h' (by simp [hk]), fun _ => ?_⟩
    (conv => arg 4; whnf); repeat (refine ⟨rfl, ?_⟩; conv => arg 4; whnf)
    refine call1 4 rErr rfl rfl (ClO.RO _ _) (ClO.RO _ _) rfl (Cl.int _ _) ?_
    (conv => arg 4; whnf); repeat (refine ⟨rfl, ?_⟩; conv => arg 4; whnf)
    refine ⟨fun h => absurd h (by first | (simp; done) | (simp [u8s]; done)), fun _ => ?_⟩
    conv => arg 4; whnf
    refine call1 4 rLeft rfl rfl (ClO.RO _ _) (ClO.RO _ _) rfl (Cl.int _ _) ?_
    (conv => arg 4; whnf); repeat (refine ⟨rfl, ?_⟩; conv => arg 4; whnf)
    refine ⟨fun h => absurd h (by first | (simp; done) | (simp [u8s]; done)), fun _ => ?_⟩
    conv => arg 4; whnf
    refine ⟨fun h => absurd h (by first | (simp; done) | (simp [u8s]; done)), fun _ => ?_⟩
    conv => arg 4; whnf
    refine ⟨fun h => absurd h (by first | (simp; done) | (simp [u8s]; done)), fun _ => ?_⟩
    conv => arg 4; whnf
    refine ⟨fun _ => ?_, fun h => absurd h (by first | (simp; done) | (simp [u8s]; done))⟩
    conv => arg 4; whnf
    refine call0 (cmMayGen (g := g) (n := n) (by omega)) (by (repeat' (first | with_reducible assumption | exact ClL.nil | exact Cl.int _ _ | exact Cl.bool _ | exact Cl.bl _ | exact Cl.bs _ | exact Cl.str _ | exact Cl.nils | exact Cl.nilp | exact Cl.rec _ | exact Cl.bat _ | exact Cl.recsV _ | exact Cl.strsV _ | exact Cl.intsV _ | exact Cl.req _ | exact Cl.rsp _ | exact Cl.reqA _ | exact Cl.rspA _ | exact Cl.batsV _ | exact Cl.prsV _ | exact Cl.atsV _ | exact Cl.entA _ _ | exact Cl.ent _ | exact Cl.rr _ _ | exact Cl.foundA _ | exact Cl.getB _ | exact Cl.encA _ | exact Cl.firstA _ | refine ClL.cons ?_ ?_ | refine Cl.tup ?_ | refine Cl.agg ?_ | exact ClO.RO _ _))) (by (repeat' (first | with_reducible assumption | exact ClL.nil | exact Cl.int _ _ | exact Cl.bool _ | exact Cl.bl _ | exact Cl.bs _ | exact Cl.str _ | exact Cl.nils | exact Cl.nilp | exact Cl.rec _ | exact Cl.bat _ | exact Cl.recsV _ | exact Cl.strsV _ | exact Cl.intsV _ | exact Cl.req _ | exact Cl.rsp _ | exact Cl.reqA _ | exact Cl.rspA _ | exact Cl.batsV _ | exact Cl.prsV _ | exact Cl.atsV _ | exact Cl.entA _ _ | exact Cl.ent _ | exact Cl.rr _ _ | exact Cl.foundA _ | exact Cl.getB _ | exact Cl.encA _ | exact Cl.firstA _ | refine ClL.cons ?_ ?_ | refine Cl.tup ?_ | refine Cl.agg ?_ | exact ClO.RO _ _))) ?_
    (conv => arg 4; whnf); repeat (refine ⟨rfl, ?_⟩; conv => arg 4; whnf)
    refine ⟨fun _ => ?_, fun h' => absurd h' (by rw [(hval rfl).2, hhv]; decide)⟩
    (conv => arg 4; whnf); repeat (refine ⟨rfl, ?_⟩; conv => arg 4; whnf)
    refine callTab 0 1 2 (cmGenOk (m := m) (f := f) (hval rfl).2) rfl rfl rfl rfl rfl rfl rfl rfl rfl ?_
    (conv => arg 4; whnf); repeat (refine ⟨rfl, ?_⟩; conv => arg 4; whnf)
    exact ⟨by decide, Le.refl _ _, ⟨⟨_, rfl, LeO.refl _ _⟩, ⟨_, rfl, LeO.refl _ _⟩, ⟨_, rfl, LeO.refl _ _⟩, trivial⟩, (by (repeat' (first | with_reducible assumption | exact ClL.nil | exact Cl.int _ _ | exact Cl.bool _ | exact Cl.bl _ | exact Cl.bs _ | exact Cl.str _ | exact Cl.nils | exact Cl.nilp | exact Cl.rec _ | exact Cl.bat _ | exact Cl.recsV _ | exact Cl.strsV _ | exact Cl.intsV _ | exact Cl.req _ | exact Cl.rsp _ | exact Cl.reqA _ | exact Cl.rspA _ | exact Cl.batsV _ | exact Cl.prsV _ | exact Cl.atsV _ | exact Cl.entA _ _ | exact Cl.ent _ | exact Cl.rr _ _ | exact Cl.foundA _ | exact Cl.getB _ | exact Cl.encA _ | exact Cl.firstA _ | refine ClL.cons ?_ ?_ | refine Cl.tup ?_ | refine Cl.agg ?_ | exact ClO.RO _ _)) : Cl _) _, ⟨⟨by decide, rfl⟩, ⟨by decide, ClO.fE _ _⟩, ⟨by decide, ClO.mE _ _⟩, trivial⟩⟩
end Go.Proofs.Ytlifbhcmihnkpaa.Cm

namespace Go.Proofs.Ytlifbhcmihnkpaa.Cm
set_option maxRecDepth 100000
set_option maxHeartbeats 80000000
open Go.Sym

abbrev Tru (a : AV) (_ : Heap) (_ : Nat) : Prop := a = .bool true ∨ a = .bl true

theorem Cl.intsV (l : List Int) : Cl (.sl .none 0 (ints l)) := Cl.sl (fun ρ => ren_ints ρ l)
theorem argsT {nx i j k : Nat} {a : AV} (h : Cl a) : [AV.ptr k 0, a] = renL (rho nx [i, j, k]) [.ptr 2 0, a] := by
  simp only [renL, ren, h _]
  rfl
theorem cmRecordOk {e : Ent} {now : Int} (h : mayE e = true) (hn : mayT now = true) : CallOK Try.prog 40 [e.av, .int .i64 now] [] 0 (Out (.tup [(recR (keyO e) e.o now).av, .int .i64 0]) [] 0) := by
  have hl := mayE_nums h
  have c := cmRecord (e := e) (now := now) (by omega) (by omega)
  rw [h, hn] at c
  exact c
theorem cmGenRecordOk {g : List UInt8} {n now : Int} (h : mayG g n = true) (hn : mayT now = true) : CallOK Try.prog 43 [.str g, .int .i64 n, .int .i64 now] [] 0 (Out (.tup [(recR (keyG g) n now).av, .int .i64 0]) [] 0) := by
  have hl := mayG_nums h
  have c := cmGenRecord (g := g) (n := n) (now := now) (by omega)
  rw [h, hn] at c
  exact c

theorem cmPutNo {m : List (MK × Int)} {f : List (List UInt8 × Int)} {e : Ent} (h : mayE e = false) (hg : e.g.length ≤ 1000000) (ht : e.t.length ≤ 1000000) : CallOK Try.prog 47 [.ptr 2 0, e.av] (TH m f) 3 (Out (.int .i64 1) (TH m f) 3) := by
  have c := cmPut (m := m) (f := f) (e := e) hg ht
  simp only [h, Bool.false_eq_true, if_false] at c
  exact c

theorem isum_range : ∀ {xs : List Int} {n : Int}, 0 ≤ n ∧ n ≤ 1099511627776 → (∀ x ∈ xs, 0 ≤ x) → 0 ≤ isum n xs ∧ isum n xs ≤ 1099511627776
  | [], n, hn, _ => hn
  | x :: r, n, hn, hx => by
    have h0 := hx x List.mem_cons_self
    unfold isum
    split
    · omega
    · exact isum_range (by omega) fun y hy => hx y (List.mem_cons_of_mem _ hy)
theorem isum_eq : ∀ {xs : List Int} {n : Int}, 0 ≤ n ∧ n ≤ 1099511627776 → (∀ x ∈ xs, 0 ≤ x) → isum n xs < 1099511627776 → isum n xs = n + xs.sum
  | [], n, hn, _, _ => by simp [isum]
  | x :: r, n, hn, hx, hl => by
    have h0 := hx x List.mem_cons_self
    unfold isum at hl ⊢
    split at hl
    · omega
    · rename_i hc
      rw [if_neg hc, isum_eq (by omega) (fun y hy => hx y (List.mem_cons_of_mem _ hy)) hl, List.sum_cons]
      omega

theorem sumB {n : Int} {x : Int} {xs : List Int} (hn : 1099511627776 < n) (hn' : n ≤ 1000000000000000000) (hx : 0 ≤ x) : CallOK Try.prog 38 [.int .i64 n, .sl .none 0 (ints (x :: xs))] [] 0 (Out (.int .i64 1099511627776) [] 0) := by
  refine callOK Try.call38 Try.func38 Try.ntmps38 rfl ?_
  conv => arg 4; whnf
  refine tri_loopG (ι := Unit) (fun _ => ⟨[(5, .int .i64 0), (0, .int .i64 n), (1, .sl .none 0 (ints (x :: xs)))], [], 0, 30⟩) (fun _ => 0) () (WkG.of rfl rfl ⟨Le.refl _ _, Le.refl _ _, Le.refl _ _, trivial⟩ trivial ⟨rfl, rfl, Cl.intsV _ _, trivial⟩ trivial) ?_
  intro _
  conv => arg 4; whnf
  have h0 : decide ((0 : Int) < ((ints (x :: xs)).length : Int)) = true := by simp [ints]
  refine ⟨fun _ => ?_, fun h' => absurd (h0.symm.trans h') (by decide)⟩
  conv => arg 4; whnf
  refine ⟨.int .i64 x, ctxP_of ⟨by omega, rfl⟩, ?_⟩
  conv => arg 4; whnf
  have h1 : decide (n > 1099511627776) = true := by simp; omega
  rw [h1]
  refine ⟨fun _ => ?_, fun h' => absurd h' (by simp)⟩
  conv => arg 4; whnf
  exact ⟨rfl, rfl, rfl⟩

/-- A weight's sum, of numbers that are none below nothing; below the limit it is their sum. -/
theorem sumE {n x : Int} {xs : List Int} (hn : 0 ≤ n ∧ n ≤ 1000000000000000000) (hx : ∀ y ∈ x :: xs, 0 ≤ y) (hl : (x :: xs).length ≤ 1000) :
    CallOK Try.prog 38 [.int .i64 n, .sl .none 0 (ints (x :: xs))] [] 0 (fun a h m => ∃ v : Int, (0 ≤ v ∧ v ≤ 1099511627776 ∧ (v < 1099511627776 → v = n + (x :: xs).sum)) ∧ Out (.int .i64 v) [] 0 a h m) := by
  by_cases h : n ≤ 1099511627776
  · exact (sum ⟨hn.1, h⟩ hx hl).mono fun _ _ _ k => ⟨_, ⟨(isum_range ⟨hn.1, h⟩ hx).1, (isum_range ⟨hn.1, h⟩ hx).2, isum_eq ⟨hn.1, h⟩ hx⟩, k⟩
  · exact (sumB (by omega) hn.2 (hx x List.mem_cons_self)).mono fun _ _ _ k => ⟨1099511627776, ⟨by omega, by omega, fun h => by omega⟩, k⟩

theorem made18 {e : Ent} : CallOK Try.prog 41 [e.av] [] 0 (Out e.av [] 0) := by
  refine CallOK.fit (by decide) ?_
  refine callOK Try.call41 Try.func41 Try.ntmps41 rfl ?_
  conv => arg 4; whnf
  exact ⟨by decide, Le.refl _ _, trivial, Cl.ent _ _, trivial⟩

theorem awake18 : CallOK Try.prog 39 [] [] 0 (Out (.bool true) [] 0) := by
  refine CallOK.fit (by decide) ?_
  refine callOK Try.call39 Try.func39 Try.ntmps39 rfl ?_
  conv => arg 4; whnf
  refine holds_out [] cmNew rfl trivial rfl ?_
  (conv => arg 4; whnf); repeat (refine ⟨rfl, ?_⟩; conv => arg 4; whnf)
  refine call0 (cmRecordOk (e := ⟨[103], [116], 1, 7⟩) (now := 3) (by decide) (by decide)) (by (repeat' (first | with_reducible assumption | exact ClL.nil | exact Cl.int _ _ | exact Cl.bool _ | exact Cl.bl _ | exact Cl.bs _ | exact Cl.str _ | exact Cl.nils | exact Cl.nilp | exact Cl.rec _ | exact Cl.bat _ | exact Cl.recsV _ | exact Cl.strsV _ | exact Cl.intsV _ | exact Cl.req _ | exact Cl.rsp _ | exact Cl.reqA _ | exact Cl.rspA _ | exact Cl.batsV _ | exact Cl.prsV _ | exact Cl.atsV _ | exact Cl.entA _ _ | exact Cl.ent _ | exact Cl.rr _ _ | exact Cl.foundA _ | exact Cl.getB _ | exact Cl.encA _ | exact Cl.firstA _ | refine ClL.cons ?_ ?_ | refine Cl.tup ?_ | refine Cl.agg ?_ | exact ClO.RO _ _))) (Cl.tup (ClL.cons (Cl.rec _) (ClL.cons (Cl.int _ _) ClL.nil))) ?_
  (conv => arg 4; whnf); repeat (refine ⟨rfl, ?_⟩; conv => arg 4; whnf)
  refine callTab 0 1 2 (m := []) (f := []) (applyO (r := recR (keyO ⟨[103], [116], 1, 7⟩) 7 3) (e := ⟨[103], [116], 1, 7⟩) (hv := true) rfl rfl rfl (fun _ => ⟨rfl, by decide⟩) (by decide)) rfl rfl rfl rfl rfl rfl rfl (argsT (Cl.rec _)) rfl ?_
  (conv => arg 4; whnf); repeat (refine ⟨rfl, ?_⟩; conv => arg 4; whnf)
  refine callTab 0 1 2 (m := setM [] ([103], [116], 1) 7) (f := []) (cmGet (g := [103]) (t := [116]) (p := 1)) rfl rfl rfl rfl rfl rfl rfl rfl rfl ?_
  (conv => arg 4; whnf); repeat (refine ⟨rfl, ?_⟩; conv => arg 4; whnf)
  refine ⟨fun _ => ?_, fun h' => absurd h' (by decide)⟩
  (conv => arg 4; whnf); repeat (refine ⟨rfl, ?_⟩; conv => arg 4; whnf)
  refine callTab 0 1 2 (m := setM [] ([103], [116], 1) 7) (f := []) (cmPutNo (e := ⟨[71], [116], 0, 0⟩) (by decide) (by decide) (by decide)) rfl rfl rfl rfl rfl rfl rfl rfl rfl ?_
  (conv => arg 4; whnf); repeat (refine ⟨rfl, ?_⟩; conv => arg 4; whnf)
  refine ⟨by decide, Le.of_eq (congrArg AV.bool (by decide)), trivial, (Cl.bool _) _, trivial⟩

theorem lawRecords {e : Ent} {gen now : Int} (hg : e.g.length ≤ 1000000000000000) (ht : e.t.length ≤ 1000000000000000) : CallOK Try.prog 7 [e.av, .int .i64 gen, .int .i64 now] [] 0 Tru := by
  refine callOK Try.call7 Try.func7 Try.ntmps7 rfl ?_
  conv => arg 4; whnf
  refine holds_args (args' := [_, .sl .none 0 (ints [(e.t.length : Int)])]) ⟨Le.refl _ _, Le.none, trivial⟩ ?_
  refine call0E (sumE (n := (e.g.length : Int)) (x := (e.t.length : Int)) (xs := []) ⟨by omega, by omega⟩ (by intro y hy; simp at hy; omega) (by simp)) (ClL.cons (Cl.int _ _) (ClL.cons (Cl.intsV _) ClL.nil)) (fun x => by (repeat' (first | with_reducible assumption | exact ClL.nil | exact Cl.int _ _ | exact Cl.bool _ | exact Cl.bl _ | exact Cl.bs _ | exact Cl.str _ | exact Cl.nils | exact Cl.nilp | exact Cl.rec _ | exact Cl.bat _ | exact Cl.recsV _ | exact Cl.strsV _ | exact Cl.intsV _ | exact Cl.req _ | exact Cl.rsp _ | exact Cl.reqA _ | exact Cl.rspA _ | exact Cl.batsV _ | exact Cl.prsV _ | exact Cl.atsV _ | exact Cl.entA _ _ | exact Cl.ent _ | exact Cl.rr _ _ | exact Cl.foundA _ | exact Cl.getB _ | exact Cl.encA _ | exact Cl.firstA _ | refine ClL.cons ?_ ?_ | refine Cl.tup ?_ | refine Cl.agg ?_ | exact ClO.RO _ _))) fun v hv => ?_
  (conv => arg 4; whnf); repeat (refine ⟨rfl, ?_⟩; conv => arg 4; whnf)
  refine ⟨fun h => ?_, fun h => ?_⟩
  · (conv => arg 4; whnf); repeat (refine ⟨rfl, ?_⟩; conv => arg 4; whnf)
    refine call0 awake18 (by (repeat' (first | with_reducible assumption | exact ClL.nil | exact Cl.int _ _ | exact Cl.bool _ | exact Cl.bl _ | exact Cl.bs _ | exact Cl.str _ | exact Cl.nils | exact Cl.nilp | exact Cl.rec _ | exact Cl.bat _ | exact Cl.recsV _ | exact Cl.strsV _ | exact Cl.intsV _ | exact Cl.req _ | exact Cl.rsp _ | exact Cl.reqA _ | exact Cl.rspA _ | exact Cl.batsV _ | exact Cl.prsV _ | exact Cl.atsV _ | exact Cl.entA _ _ | exact Cl.ent _ | exact Cl.rr _ _ | exact Cl.foundA _ | exact Cl.getB _ | exact Cl.encA _ | exact Cl.firstA _ | refine ClL.cons ?_ ?_ | refine Cl.tup ?_ | refine Cl.agg ?_ | exact ClO.RO _ _))) (by (repeat' (first | with_reducible assumption | exact ClL.nil | exact Cl.int _ _ | exact Cl.bool _ | exact Cl.bl _ | exact Cl.bs _ | exact Cl.str _ | exact Cl.nils | exact Cl.nilp | exact Cl.rec _ | exact Cl.bat _ | exact Cl.recsV _ | exact Cl.strsV _ | exact Cl.intsV _ | exact Cl.req _ | exact Cl.rsp _ | exact Cl.reqA _ | exact Cl.rspA _ | exact Cl.batsV _ | exact Cl.prsV _ | exact Cl.atsV _ | exact Cl.entA _ _ | exact Cl.ent _ | exact Cl.rr _ _ | exact Cl.foundA _ | exact Cl.getB _ | exact Cl.encA _ | exact Cl.firstA _ | refine ClL.cons ?_ ?_ | refine Cl.tup ?_ | refine Cl.agg ?_ | exact ClO.RO _ _))) ?_
    (conv => arg 4; whnf); repeat (refine ⟨rfl, ?_⟩; conv => arg 4; whnf)
    exact .inl rfl
  · rw [← Bool.not_eq_true] at h; simp only [Bool.cond_true_left, Bool.cond_false_right, Bool.or_eq_true, Bool.and_eq_true, Bool.not_eq_true', decide_eq_true_eq, beq_iff_eq, bne_iff_ne, u8s_length, gt_iff_lt, ge_iff_le] at h
    have h2 := hv.2.2 (by omega)
    simp only [List.sum_cons, List.sum_nil] at h2
    have hgl : e.g.length ≤ 300 ∧ e.t.length ≤ 300 := by omega
    (conv => arg 4; whnf); repeat (refine ⟨rfl, ?_⟩; conv => arg 4; whnf)
    refine call0 made18 (ClL.cons (Cl.ent e) ClL.nil) (Cl.ent e) ?_
    (conv => arg 4; whnf); repeat (refine ⟨rfl, ?_⟩; conv => arg 4; whnf)
    refine call0 (cmRecord (e := e) (now := now) (by omega) (by omega)) (by (repeat' (first | with_reducible assumption | exact ClL.nil | exact Cl.int _ _ | exact Cl.bool _ | exact Cl.bl _ | exact Cl.bs _ | exact Cl.str _ | exact Cl.nils | exact Cl.nilp | exact Cl.rec _ | exact Cl.bat _ | exact Cl.recsV _ | exact Cl.strsV _ | exact Cl.intsV _ | exact Cl.req _ | exact Cl.rsp _ | exact Cl.reqA _ | exact Cl.rspA _ | exact Cl.batsV _ | exact Cl.prsV _ | exact Cl.atsV _ | exact Cl.entA _ _ | exact Cl.ent _ | exact Cl.rr _ _ | exact Cl.foundA _ | exact Cl.getB _ | exact Cl.encA _ | exact Cl.firstA _ | refine ClL.cons ?_ ?_ | refine Cl.tup ?_ | refine Cl.agg ?_ | exact ClO.RO _ _))) (Cl.rr _ _) ?_
    (conv => arg 4; whnf); repeat (refine ⟨rfl, ?_⟩; conv => arg 4; whnf)
    refine call0 (refRecord (e := e) (now := now) (by omega) (by omega)) (ClL.cons (Cl.ent e) (ClL.cons (Cl.int _ _) ClL.nil)) (Cl.rr _ _) ?_
    (conv => arg 4; whnf); repeat (refine ⟨rfl, ?_⟩; conv => arg 4; whnf)
    refine call0 (cmGenRecord (g := e.g) (n := gen) (now := now) (by omega)) (by (repeat' (first | with_reducible assumption | exact ClL.nil | exact Cl.int _ _ | exact Cl.bool _ | exact Cl.bl _ | exact Cl.bs _ | exact Cl.str _ | exact Cl.nils | exact Cl.nilp | exact Cl.rec _ | exact Cl.bat _ | exact Cl.recsV _ | exact Cl.strsV _ | exact Cl.intsV _ | exact Cl.req _ | exact Cl.rsp _ | exact Cl.reqA _ | exact Cl.rspA _ | exact Cl.batsV _ | exact Cl.prsV _ | exact Cl.atsV _ | exact Cl.entA _ _ | exact Cl.ent _ | exact Cl.rr _ _ | exact Cl.foundA _ | exact Cl.getB _ | exact Cl.encA _ | exact Cl.firstA _ | refine ClL.cons ?_ ?_ | refine Cl.tup ?_ | refine Cl.agg ?_ | exact ClO.RO _ _))) (Cl.rr _ _) ?_
    (conv => arg 4; whnf); repeat (refine ⟨rfl, ?_⟩; conv => arg 4; whnf)
    refine call0 (refGenRecord (g := e.g) (n := gen) (now := now) (by omega)) (by (repeat' (first | with_reducible assumption | exact ClL.nil | exact Cl.int _ _ | exact Cl.bool _ | exact Cl.bl _ | exact Cl.bs _ | exact Cl.str _ | exact Cl.nils | exact Cl.nilp | exact Cl.rec _ | exact Cl.bat _ | exact Cl.recsV _ | exact Cl.strsV _ | exact Cl.intsV _ | exact Cl.req _ | exact Cl.rsp _ | exact Cl.reqA _ | exact Cl.rspA _ | exact Cl.batsV _ | exact Cl.prsV _ | exact Cl.atsV _ | exact Cl.entA _ _ | exact Cl.ent _ | exact Cl.rr _ _ | exact Cl.foundA _ | exact Cl.getB _ | exact Cl.encA _ | exact Cl.firstA _ | refine ClL.cons ?_ ?_ | refine Cl.tup ?_ | refine Cl.agg ?_ | exact ClO.RO _ _))) (Cl.rr _ _) ?_
    (conv => arg 4; whnf); repeat (refine ⟨rfl, ?_⟩; conv => arg 4; whnf)
    refine call0 (refSameRec (a := rrR (mayE e && mayT now) (recR (keyO e) e.o now)) (b := rrR (mayE e && mayT now) (recR (keyO e) e.o now))) (ClL.cons (Cl.rec _) (ClL.cons (Cl.rec _) ClL.nil)) (by (repeat' (first | with_reducible assumption | exact ClL.nil | exact Cl.int _ _ | exact Cl.bool _ | exact Cl.bl _ | exact Cl.bs _ | exact Cl.str _ | exact Cl.nils | exact Cl.nilp | exact Cl.rec _ | exact Cl.bat _ | exact Cl.recsV _ | exact Cl.strsV _ | exact Cl.intsV _ | exact Cl.req _ | exact Cl.rsp _ | exact Cl.reqA _ | exact Cl.rspA _ | exact Cl.batsV _ | exact Cl.prsV _ | exact Cl.atsV _ | exact Cl.entA _ _ | exact Cl.ent _ | exact Cl.rr _ _ | exact Cl.foundA _ | exact Cl.getB _ | exact Cl.encA _ | exact Cl.firstA _ | refine ClL.cons ?_ ?_ | refine Cl.tup ?_ | refine Cl.agg ?_ | exact ClO.RO _ _))) ?_
    (conv => arg 4; whnf); repeat (refine ⟨rfl, ?_⟩; conv => arg 4; whnf)
    refine ⟨fun _ => ?_, fun h' => absurd h' (by simp)⟩
    (conv => arg 4; whnf); repeat (refine ⟨rfl, ?_⟩; conv => arg 4; whnf)
    refine call0 (refSameRec (a := rrR (mayG e.g gen && mayT now) (recR (keyG e.g) gen now)) (b := rrR (mayG e.g gen && mayT now) (recR (keyG e.g) gen now))) (ClL.cons (Cl.rec _) (ClL.cons (Cl.rec _) ClL.nil)) (by (repeat' (first | with_reducible assumption | exact ClL.nil | exact Cl.int _ _ | exact Cl.bool _ | exact Cl.bl _ | exact Cl.bs _ | exact Cl.str _ | exact Cl.nils | exact Cl.nilp | exact Cl.rec _ | exact Cl.bat _ | exact Cl.recsV _ | exact Cl.strsV _ | exact Cl.intsV _ | exact Cl.req _ | exact Cl.rsp _ | exact Cl.reqA _ | exact Cl.rspA _ | exact Cl.batsV _ | exact Cl.prsV _ | exact Cl.atsV _ | exact Cl.entA _ _ | exact Cl.ent _ | exact Cl.rr _ _ | exact Cl.foundA _ | exact Cl.getB _ | exact Cl.encA _ | exact Cl.firstA _ | refine ClL.cons ?_ ?_ | refine Cl.tup ?_ | refine Cl.agg ?_ | exact ClO.RO _ _))) ?_
    (conv => arg 4; whnf); repeat (refine ⟨rfl, ?_⟩; conv => arg 4; whnf)
    refine ⟨fun _ => ?_, fun h' => absurd h' (by simp)⟩
    (conv => arg 4; whnf); repeat (refine ⟨rfl, ?_⟩; conv => arg 4; whnf)
    refine call0 awake18 (by (repeat' (first | with_reducible assumption | exact ClL.nil | exact Cl.int _ _ | exact Cl.bool _ | exact Cl.bl _ | exact Cl.bs _ | exact Cl.str _ | exact Cl.nils | exact Cl.nilp | exact Cl.rec _ | exact Cl.bat _ | exact Cl.recsV _ | exact Cl.strsV _ | exact Cl.intsV _ | exact Cl.req _ | exact Cl.rsp _ | exact Cl.reqA _ | exact Cl.rspA _ | exact Cl.batsV _ | exact Cl.prsV _ | exact Cl.atsV _ | exact Cl.entA _ _ | exact Cl.ent _ | exact Cl.rr _ _ | exact Cl.foundA _ | exact Cl.getB _ | exact Cl.encA _ | exact Cl.firstA _ | refine ClL.cons ?_ ?_ | refine Cl.tup ?_ | refine Cl.agg ?_ | exact ClO.RO _ _))) (by (repeat' (first | with_reducible assumption | exact ClL.nil | exact Cl.int _ _ | exact Cl.bool _ | exact Cl.bl _ | exact Cl.bs _ | exact Cl.str _ | exact Cl.nils | exact Cl.nilp | exact Cl.rec _ | exact Cl.bat _ | exact Cl.recsV _ | exact Cl.strsV _ | exact Cl.intsV _ | exact Cl.req _ | exact Cl.rsp _ | exact Cl.reqA _ | exact Cl.rspA _ | exact Cl.batsV _ | exact Cl.prsV _ | exact Cl.atsV _ | exact Cl.entA _ _ | exact Cl.ent _ | exact Cl.rr _ _ | exact Cl.foundA _ | exact Cl.getB _ | exact Cl.encA _ | exact Cl.firstA _ | refine ClL.cons ?_ ?_ | refine Cl.tup ?_ | refine Cl.agg ?_ | exact ClO.RO _ _))) ?_
    (conv => arg 4; whnf); repeat (refine ⟨rfl, ?_⟩; conv => arg 4; whnf)
    exact .inl rfl
end Go.Proofs.Ytlifbhcmihnkpaa.Cm

namespace Go.Proofs.Ytlifbhcmihnkpaa.Cm
set_option maxRecDepth 100000
set_option maxHeartbeats 80000000
open Go.Sym

theorem inv0 (W : World) : Inv (F0 W) V0 [] W :=
  ⟨fun b o x h => h, fun id o hg => by simp [Go.Sym.get] at hg, fun id o b off hg => by simp [Go.Sym.get] at hg, fun id id' o o' b hg => by simp [Go.Sym.get] at hg⟩
theorem str_lt {s : List UInt8} (h : s.length ≤ reachBytes) : s.length ≤ 1000000000000000 := by
  unfold reachBytes at h
  omega
theorem ent_of {n : Nat} {l : List AV} (g : Sym.Good Try.prog n 57 l) : ∃ e : Ent, (e.g.length ≤ 1000000000000000 ∧ e.t.length ≤ 1000000000000000) ∧ Le [] (.agg l) e.av := by
  obtain ⟨m, g⟩ := Sym.Good.struct Try.underlying57 (by kernel_rfl) g
  obtain ⟨_, _, rfl, g1, _, _, rfl, g2, _, _, rfl, g3, _, _, rfl, g4, rfl⟩ := g
  obtain ⟨x1, rfl, w1⟩ := Sym.Good.str Try.underlying9 g1
  obtain ⟨x2, rfl, w2⟩ := Sym.Good.str Try.underlying9 g2
  obtain ⟨x3, rfl, w3⟩ := Sym.Good.int Try.underlying3 g3
  obtain ⟨x4, rfl, w4⟩ := Sym.Good.int Try.underlying3 g4
  exact ⟨⟨x1, x2, x3, x4⟩, ⟨str_lt w1, str_lt w2⟩, Le.refl _ _⟩
end Go.Proofs.Ytlifbhcmihnkpaa.Cm

namespace Go.Proofs.Ytlifbhcmihnkpaa.Cm
set_option maxRecDepth 100000
set_option maxHeartbeats 80000000
open Go.Sym

section
variable {K : Type} [DecidableEq K]
/-- Do two maps have the same entries? -/
def eqMp (a b : List (K × Int)) : Bool := decide (a.length = b.length) && a.all fun x => decide (findM b x.1 = some x.2)
def nzM (a : List (K × Int)) : List (K × Int) := a.filter fun x => decide (x.2 ≠ 0)

theorem findM_mem {k : K} {v : Int} : ∀ {m : List (K × Int)}, findM m k = some v → (k, v) ∈ m
  | [], h => by simp [findM] at h
  | (a, x) :: r, h => by
    simp only [findM] at h
    split at h
    · rename_i e; cases h; subst e; exact List.mem_cons_self
    · exact List.mem_cons_of_mem _ (findM_mem h)
theorem mem_findM {k : K} {v : Int} : ∀ {m : List (K × Int)}, OnceM m → (k, v) ∈ m → findM m k = some v
  | [], _, h => by cases h
  | (a, x) :: r, ⟨h1, h2⟩, h => by
    simp only [findM]
    rcases List.mem_cons.1 h with e | hm
    · cases e; rw [if_pos rfl]
    · have ih := mem_findM h2 hm
      by_cases e : k = a
      · rw [e, h1] at ih
        cases ih
      · rw [if_neg e]
        exact ih
theorem once_filter (p : K × Int → Bool) : ∀ {m : List (K × Int)}, OnceM m → OnceM (m.filter p)
  | [], _ => trivial
  | (a, x) :: r, ⟨h1, h2⟩ => by
    rw [List.filter_cons]
    split
    · refine ⟨?_, once_filter p h2⟩
      cases hf : findM (r.filter p) a with
      | none => rfl
      | some v =>
        have := List.mem_filter.1 (findM_mem hf)
        rw [mem_findM h2 this.1] at h1
        cases h1
    · exact once_filter p h2
theorem find_filter {p : K × Int → Bool} {k : K} {m : List (K × Int)} (h : OnceM m) : findM (m.filter p) k = match findM m k with | some v => if p (k, v) then some v else none | none => none := by
  cases hf : findM m k with
  | none =>
    cases hg : findM (m.filter p) k with
    | none => rfl
    | some v =>
      have := (List.mem_filter.1 (findM_mem hg)).1
      rw [mem_findM h this] at hf
      cases hf
  | some v =>
    dsimp only
    have hm := findM_mem hf
    by_cases hp : p (k, v) = true
    · rw [if_pos hp]
      exact mem_findM (once_filter p h) (List.mem_filter.2 ⟨hm, hp⟩)
    · rw [if_neg hp]
      cases hg : findM (m.filter p) k with
      | none => rfl
      | some u =>
        have := List.mem_filter.1 (findM_mem hg)
        rw [mem_findM h this.1] at hf
        cases hf
        exact absurd this.2 hp
theorem once_nodup : ∀ {m : List (K × Int)}, OnceM m → (m.map (·.1)).Nodup
  | [], _ => List.nodup_nil
  | (a, x) :: r, ⟨h1, h2⟩ => by
    rw [List.map_cons, List.nodup_cons]
    refine ⟨fun h => ?_, once_nodup h2⟩
    obtain ⟨⟨b, y⟩, hb, e⟩ := List.mem_map.1 h
    simp only at e
    subst e
    rw [mem_findM h2 hb] at h1
    cases h1
theorem nodup_len {α : Type} [DecidableEq α] : ∀ {l m : List α}, l.Nodup → (∀ x ∈ l, x ∈ m) → l.length ≤ m.length
  | [], _, _, _ => Nat.zero_le _
  | a :: l, m, h, hs => by
    rw [List.nodup_cons] at h
    have ha := hs a List.mem_cons_self
    have ih := nodup_len (m := m.erase a) h.2 fun x hx => (List.mem_erase_of_ne (fun e => h.1 (by rw [← e]; exact hx))).2 (hs x (List.mem_cons_of_mem _ hx))
    rw [List.length_erase_of_mem ha] at ih
    have := List.length_pos_of_mem ha
    simp only [List.length_cons]
    omega
/-- The same as functions: the same as maps. -/
theorem eqMp_of {a b : List (K × Int)} (ha : OnceM a) (hb : OnceM b) (h : ∀ k, findM a k = findM b k) : eqMp a b = true := by
  have hl : a.length = b.length := by
    have h1 : ∀ k ∈ a.map (·.1), k ∈ b.map (·.1) := fun k hk => by
      obtain ⟨⟨k', v⟩, hm, rfl⟩ := List.mem_map.1 hk
      have := mem_findM ha hm
      rw [h] at this
      exact List.mem_map.2 ⟨_, findM_mem this, rfl⟩
    have h2 : ∀ k ∈ b.map (·.1), k ∈ a.map (·.1) := fun k hk => by
      obtain ⟨⟨k', v⟩, hm, rfl⟩ := List.mem_map.1 hk
      have := mem_findM hb hm
      rw [← h] at this
      exact List.mem_map.2 ⟨_, findM_mem this, rfl⟩
    have l1 := nodup_len (once_nodup ha) h1
    have l2 := nodup_len (once_nodup hb) h2
    simp only [List.length_map] at l1 l2
    omega
  unfold eqMp
  rw [Bool.and_eq_true]
  refine ⟨decide_eq_true hl, ?_⟩
  rw [List.all_eq_true]
  rintro ⟨k, v⟩ hm
  rw [decide_eq_true_eq, ← h]
  exact mem_findM ha hm
end
end Go.Proofs.Ytlifbhcmihnkpaa.Cm

namespace Go.Proofs.Ytlifbhcmihnkpaa.Cm
set_option maxRecDepth 100000
set_option maxHeartbeats 80000000
open Go.Sym

abbrev MM (a b : List (AV × AV)) : Heap := [(1, .map b), (0, .map a)]
theorem mE_get {m : List (MK × Int)} {i : Nat} {kv : AV × AV} (h : (mE m)[i]? = some kv) : ∃ x, m[i]? = some x ∧ kv = (kA x.1, .int .i64 x.2) := by
  simp only [mE, List.getElem?_map] at h
  obtain ⟨x, hx, e⟩ := Option.map_eq_some_iff.1 h
  exact ⟨x, hx, e.symm⟩
theorem fE_get {m : List (List UInt8 × Int)} {i : Nat} {kv : AV × AV} (h : (fE m)[i]? = some kv) : ∃ x, m[i]? = some x ∧ kv = (.str x.1, .int .i64 x.2) := by
  simp only [fE, List.getElem?_map] at h
  obtain ⟨x, hx, e⟩ := Option.map_eq_some_iff.1 h
  exact ⟨x, hx, e.symm⟩
theorem ClO.mN (m : List (MK × Int)) (bs : List Nat) (c : Nat) : ClO (.mapN (Cm.mE m) bs c) := fun ρ => by simp only [renO, ren_mE]
theorem ClO.fN (m : List (List UInt8 × Int)) (bs : List Nat) (c : Nat) : ClO (.mapN (Cm.fE m) bs c) := fun ρ => by simp only [renO, ren_fE]

theorem rng_ok {bs : List Nat} {es : List (AV × AV)} {c : Nat} (h1 : bs.length = es.length) (h2 : ∀ n ∈ bs, n < c) : es = [] ∨ ∃ n ∈ bs, n < c := by
  cases bs with
  | nil => exact .inl (List.eq_nil_of_length_eq_zero h1.symm)
  | cons n r => exact .inr ⟨n, List.mem_cons_self, h2 n List.mem_cons_self⟩

structure EqI {K : Type} [DecidableEq K] (a b : List (K × Int)) (bs : List Nat) where
  seen : List Nat
  nd : seen.Nodup
  sub : ∀ n ∈ seen, n ∈ bs
  good : ∀ (i n : Nat) (x : K × Int), bs[i]? = some n → n ∈ seen → a[i]? = some x → findM b x.1 = some x.2
theorem EqI.len {K : Type} [DecidableEq K] {a b : List (K × Int)} {bs : List Nat} (x : EqI a b bs) : x.seen.length ≤ bs.length := nodup_len x.nd x.sub
theorem EqI.lt {K : Type} [DecidableEq K] {a b : List (K × Int)} {bs : List Nat} (x : EqI a b bs) {n : Nat} (hn : n ∈ bs) (h : n ∉ x.seen) : x.seen.length + 1 ≤ bs.length :=
  nodup_len (l := n :: x.seen) (List.nodup_cons.2 ⟨h, x.nd⟩) fun y hy => by
    rcases List.mem_cons.1 hy with rfl | hy
    · exact hn
    · exact x.sub y hy
theorem pair_inj {bs : List Nat} (h : bs.Pairwise (· < ·)) {i j n : Nat} (hi : bs[i]? = some n) (hj : bs[j]? = some n) : i = j := by
  rw [List.pairwise_iff_getElem] at h
  obtain ⟨hi1, hi2⟩ := List.getElem?_eq_some_iff.1 hi
  obtain ⟨hj1, hj2⟩ := List.getElem?_eq_some_iff.1 hj
  rcases Nat.lt_trichotomy i j with q | q | q
  · have := h i j hi1 hj1 q; omega
  · exact q
  · have := h j i hj1 hi1 q; omega
def EqI.step {K : Type} [DecidableEq K] {a b : List (K × Int)} {bs : List Nat} (h3 : bs.Pairwise (· < ·)) (y : EqI a b bs) {i n : Nat} {x : K × Int} (hi : bs[i]? = some n) (hx : a[i]? = some x) (hn : n ∉ y.seen) (hg : findM b x.1 = some x.2) : EqI a b bs :=
  ⟨n :: y.seen, List.nodup_cons.2 ⟨hn, y.nd⟩, fun m hm => by
    rcases List.mem_cons.1 hm with rfl | hm
    · exact List.mem_of_getElem? hi
    · exact y.sub m hm, fun j m z hj hm hz => by
    rcases List.mem_cons.1 hm with rfl | hm
    · have := pair_inj h3 hi hj
      subst this
      rw [hx] at hz
      cases hz
      exact hg
    · exact y.good j m z hj hm hz⟩
theorem eqMp_bad {K : Type} [DecidableEq K] {a b : List (K × Int)} {i : Nat} {x : K × Int} (hx : a[i]? = some x) (hb : findM b x.1 ≠ some x.2) : eqMp a b = false := by
  unfold eqMp
  have : (a.all fun x => decide (findM b x.1 = some x.2)) = false := List.all_eq_false.2 ⟨x, List.mem_of_getElem? hx, by simpa using hb⟩
  rw [this, Bool.and_false]
theorem EqI.all {K : Type} [DecidableEq K] {a b : List (K × Int)} {bs : List Nat} (y : EqI a b bs) (hl : a.length = b.length) (hb : bs.length = a.length) (h : ∀ n ∈ bs, n ∈ y.seen) : eqMp a b = true := by
  unfold eqMp
  rw [decide_eq_true hl, Bool.true_and, List.all_eq_true]
  intro x hx
  obtain ⟨i, hi⟩ := List.mem_iff_getElem?.1 hx
  have hlt : i < bs.length := by
    have := (List.getElem?_eq_some_iff.1 hi).1
    omega
  have hn : bs[i]? = some bs[i] := List.getElem?_eq_getElem hlt
  exact decide_eq_true (y.good i _ x hn (h _ (List.mem_of_getElem? hn)) hi)

theorem cmp_iff {v : Option Int} {n : Int} : (bif !v.isSome then true else n != v.getD 0) = true ↔ v ≠ some n := by
  cases v with
  | none => simp
  | some m => simp; exact ne_comm

theorem mapsEqM {a b : List (MK × Int)} : CallOK Try.prog 104 [.map 0, .map 1] (MM (mE a) (mE b)) 2 (Out (.bool (eqMp a b)) (MM (mE a) (mE b)) 2) := by
  refine CallOK.fit (by decide) ?_
  refine callOK Try.call104 Try.func104 Try.ntmps104 rfl ?_
  conv => arg 4; whnf
  refine ⟨fun h => ?_, fun h => ?_⟩
  · have h : a.length ≠ b.length := by simp only [mE, List.length_map, bne_iff_ne] at h; omega
    (conv => arg 4; whnf); repeat (refine ⟨rfl, ?_⟩; conv => arg 4; whnf)
    refine ⟨by decide, Le.blOf ?_, ⟨⟨_, rfl, LeO.refl _ _⟩, ⟨_, rfl, LeO.refl _ _⟩, trivial⟩, (Cl.bool _) _, ⟨⟨by decide, ClO.mE _ _⟩, ⟨by decide, ClO.mE _ _⟩, trivial⟩⟩
    unfold eqMp
    rw [decide_eq_false h]; rfl
  · have h : a.length = b.length := by simp only [mE, List.length_map, bne_eq_false_iff_eq] at h; omega
    (conv => arg 4; whnf); repeat (refine ⟨rfl, ?_⟩; conv => arg 4; whnf)
    intro bs c h1 h2 h3
    (conv => arg 4; whnf); repeat (refine ⟨rfl, ?_⟩; conv => arg 4; whnf)
    have h1 : bs.length = a.length := by simpa [mE] using h1
    refine tri_loopG (ι := EqI a b bs) (fun x => ⟨[(15, .ptr 2 0), (1, .map 1)], [(2, .iter 0 c x.seen c), (1, .map (mE b)), (0, .mapN (mE a) bs c)], 3, 34⟩) (fun x => bs.length - x.seen.length) ⟨[], List.nodup_nil, (fun n hn => by cases hn), fun i n x _ hn => by cases hn⟩ (WkG.of rfl rfl ⟨Le.refl _ _, Le.refl _ _, trivial⟩ ⟨⟨_, rfl, LeO.refl _ _⟩, ⟨_, rfl, LeO.refl _ _⟩, ⟨_, rfl, LeO.refl _ _⟩, trivial⟩ ⟨rfl, rfl, trivial⟩ ⟨⟨by decide, rfl⟩, ⟨by decide, ClO.mE _ _⟩, ⟨by decide, ClO.mN _ _ _ _⟩, trivial⟩) ?_
    intro y
    have hyl := y.len
    conv => arg 4; whnf
    refine ⟨⟨h2, ?_⟩, fun i n kv hi hkv hn => ?_, fun hall => ?_⟩
    · exact .inr (rng_ok (by rw [h1]; simp [mE]) h2)
    · obtain ⟨x, hx, rfl⟩ := mE_get hkv
      (conv => arg 4; whnf); repeat (refine ⟨rfl, ?_⟩; conv => arg 4; whnf)
      refine ⟨i, _, hi, hkv, ?_⟩
      (conv => arg 4; whnf); repeat (refine ⟨rfl, ?_⟩; conv => arg 4; whnf)
      refine ⟨.tup [.int .i64 ((findM b x.1).getD 0), .bool (findM b x.1).isSome], ⟨by decide, congrArg some (look_mE b x.1)⟩, ?_⟩
      conv => arg 4; whnf
      refine ⟨askM b x.1, ?_⟩
      (conv => arg 4; whnf); repeat (refine ⟨rfl, ?_⟩; conv => arg 4; whnf)
      have hcmp := cmp_iff (v := findM b x.1) (n := x.2)
      refine ⟨fun hb => ?_, fun hb => ?_⟩
      · have hb := hcmp.1 hb
        (conv => arg 4; whnf); repeat (refine ⟨rfl, ?_⟩; conv => arg 4; whnf)
        refine fin_ret ?_
        show holds _ _ _ _
        conv => arg 4; whnf
        refine ⟨by decide, Le.blOf (eqMp_bad hx hb).symm, ⟨⟨_, rfl, LeO.refl _ _⟩, ⟨_, rfl, rfl⟩, trivial⟩, (Cl.bool _) _, ⟨⟨by decide, ClO.mE _ _⟩, ⟨by decide, ClO.mE _ _⟩, trivial⟩⟩
      · have hb : findM b x.1 = some x.2 := Classical.byContradiction fun h' => by rw [hcmp.2 h'] at hb; cases hb
        (conv => arg 4; whnf); repeat (refine ⟨rfl, ?_⟩; conv => arg 4; whnf)
        exact ⟨y.step h3 hi hx hn hb, by show bs.length - (y.seen.length + 1) < bs.length - y.seen.length; have := y.lt (List.mem_of_getElem? hi) hn; omega, WkG.of rfl rfl ⟨Le.refl _ _, Le.refl _ _, trivial⟩ ⟨⟨_, rfl, LeO.refl _ _⟩, ⟨_, rfl, LeO.refl _ _⟩, ⟨_, rfl, LeO.refl _ _⟩, trivial⟩ ⟨rfl, rfl, trivial⟩ ⟨⟨by decide, rfl⟩, ⟨by decide, ClO.mE _ _⟩, ⟨by decide, ClO.mN _ _ _ _⟩, trivial⟩⟩
    · (conv => arg 4; whnf); repeat (refine ⟨rfl, ?_⟩; conv => arg 4; whnf)
      refine fin_exit ?_
      show holds _ _ _ _
      conv => arg 4; whnf
      refine ⟨by decide, Le.blOf (y.all h h1 hall).symm, ⟨⟨_, rfl, LeO.refl _ _⟩, ⟨_, rfl, rfl⟩, trivial⟩, (Cl.bool _) _, ⟨⟨by decide, ClO.mE _ _⟩, ⟨by decide, ClO.mE _ _⟩, trivial⟩⟩
theorem look_fE2 (m : List (List UInt8 × Int)) (k : List UInt8) : lookV (fE m) (.str k) (.int .i64 0) true = .tup [.int .i64 ((findM m k).getD 0), .bool (findM m k).isSome] := by
  unfold lookV
  rw [find_fE]
  cases findM m k <;> rfl
theorem mapsEqF {a b : List (List UInt8 × Int)} : CallOK Try.prog 105 [.map 0, .map 1] (MM (fE a) (fE b)) 2 (Out (.bool (eqMp a b)) (MM (fE a) (fE b)) 2) := by
  refine CallOK.fit (by decide) ?_
  refine callOK Try.call105 Try.func105 Try.ntmps105 rfl ?_
  conv => arg 4; whnf
  refine ⟨fun h => ?_, fun h => ?_⟩
  · have h : a.length ≠ b.length := by simp only [fE, List.length_map, bne_iff_ne] at h; omega
    (conv => arg 4; whnf); repeat (refine ⟨rfl, ?_⟩; conv => arg 4; whnf)
    refine ⟨by decide, Le.blOf ?_, ⟨⟨_, rfl, LeO.refl _ _⟩, ⟨_, rfl, LeO.refl _ _⟩, trivial⟩, (Cl.bool _) _, ⟨⟨by decide, ClO.fE _ _⟩, ⟨by decide, ClO.fE _ _⟩, trivial⟩⟩
    unfold eqMp
    rw [decide_eq_false h]; rfl
  · have h : a.length = b.length := by simp only [fE, List.length_map, bne_eq_false_iff_eq] at h; omega
    (conv => arg 4; whnf); repeat (refine ⟨rfl, ?_⟩; conv => arg 4; whnf)
    intro bs c h1 h2 h3
    (conv => arg 4; whnf); repeat (refine ⟨rfl, ?_⟩; conv => arg 4; whnf)
    have h1 : bs.length = a.length := by simpa [fE] using h1
    refine tri_loopG (ι := EqI a b bs) (fun x => ⟨[(15, .ptr 2 0), (1, .map 1)], [(2, .iter 0 c x.seen c), (1, .map (fE b)), (0, .mapN (fE a) bs c)], 3, 34⟩) (fun x => bs.length - x.seen.length) ⟨[], List.nodup_nil, (fun n hn => by cases hn), fun i n x _ hn => by cases hn⟩ (WkG.of rfl rfl ⟨Le.refl _ _, Le.refl _ _, trivial⟩ ⟨⟨_, rfl, LeO.refl _ _⟩, ⟨_, rfl, LeO.refl _ _⟩, ⟨_, rfl, LeO.refl _ _⟩, trivial⟩ ⟨rfl, rfl, trivial⟩ ⟨⟨by decide, rfl⟩, ⟨by decide, ClO.fE _ _⟩, ⟨by decide, ClO.fN _ _ _ _⟩, trivial⟩) ?_
    intro y
    have hyl := y.len
    conv => arg 4; whnf
    refine ⟨⟨h2, ?_⟩, fun i n kv hi hkv hn => ?_, fun hall => ?_⟩
    · exact .inr (rng_ok (by rw [h1]; simp [fE]) h2)
    · obtain ⟨x, hx, rfl⟩ := fE_get hkv
      (conv => arg 4; whnf); repeat (refine ⟨rfl, ?_⟩; conv => arg 4; whnf)
      refine ⟨i, _, hi, hkv, ?_⟩
      (conv => arg 4; whnf); repeat (refine ⟨rfl, ?_⟩; conv => arg 4; whnf)
      refine ⟨.tup [.int .i64 ((findM b x.1).getD 0), .bool (findM b x.1).isSome], ⟨by decide, congrArg some (look_fE2 b x.1)⟩, ?_⟩
      conv => arg 4; whnf
      refine ⟨askF b x.1, ?_⟩
      (conv => arg 4; whnf); repeat (refine ⟨rfl, ?_⟩; conv => arg 4; whnf)
      have hcmp := cmp_iff (v := findM b x.1) (n := x.2)
      refine ⟨fun hb => ?_, fun hb => ?_⟩
      · have hb := hcmp.1 hb
        (conv => arg 4; whnf); repeat (refine ⟨rfl, ?_⟩; conv => arg 4; whnf)
        refine fin_ret ?_
        show holds _ _ _ _
        conv => arg 4; whnf
        refine ⟨by decide, Le.blOf (eqMp_bad hx hb).symm, ⟨⟨_, rfl, LeO.refl _ _⟩, ⟨_, rfl, rfl⟩, trivial⟩, (Cl.bool _) _, ⟨⟨by decide, ClO.fE _ _⟩, ⟨by decide, ClO.fE _ _⟩, trivial⟩⟩
      · have hb : findM b x.1 = some x.2 := Classical.byContradiction fun h' => by rw [hcmp.2 h'] at hb; cases hb
        (conv => arg 4; whnf); repeat (refine ⟨rfl, ?_⟩; conv => arg 4; whnf)
        exact ⟨y.step h3 hi hx hn hb, by show bs.length - (y.seen.length + 1) < bs.length - y.seen.length; have := y.lt (List.mem_of_getElem? hi) hn; omega, WkG.of rfl rfl ⟨Le.refl _ _, Le.refl _ _, trivial⟩ ⟨⟨_, rfl, LeO.refl _ _⟩, ⟨_, rfl, LeO.refl _ _⟩, ⟨_, rfl, LeO.refl _ _⟩, trivial⟩ ⟨rfl, rfl, trivial⟩ ⟨⟨by decide, rfl⟩, ⟨by decide, ClO.fE _ _⟩, ⟨by decide, ClO.fN _ _ _ _⟩, trivial⟩⟩
    · (conv => arg 4; whnf); repeat (refine ⟨rfl, ?_⟩; conv => arg 4; whnf)
      refine fin_exit ?_
      show holds _ _ _ _
      conv => arg 4; whnf
      refine ⟨by decide, Le.blOf (y.all h h1 hall).symm, ⟨⟨_, rfl, LeO.refl _ _⟩, ⟨_, rfl, rfl⟩, trivial⟩, (Cl.bool _) _, ⟨⟨by decide, ClO.fE _ _⟩, ⟨by decide, ClO.fE _ _⟩, trivial⟩⟩
end Go.Proofs.Ytlifbhcmihnkpaa.Cm

namespace Go.Proofs.Ytlifbhcmihnkpaa.Cm
set_option maxRecDepth 100000
set_option maxHeartbeats 80000000
open Go.Sym

def cloneRen : Go.Shelf.Ren := ⟨fun n => match n with | 5 => 101 | 7 => 126 | n => n, fun n => match n with | 23 => 143 | 25 => 9 | 3 => 3 | 20 => 20 | n => n, fun n => n⟩

theorem cloneLays : SlLaysW.n5 Try.prog cloneRen where
  mixed := rfl
  f5 := ⟨"maps.Clone[map[string]int,string,int]", by decide, Try.func101⟩
  f7 := Try.func126
  t4 := Try.underlying4
  a4 := Try.isAgg4
  z4 := Try.sizeOf4
  v4 := Try.zeroValue4
  t20 := Try.underlying20
  a20 := Try.isAgg20
  z20 := Try.sizeOf20
  v20 := Try.zeroValue20
  t23 := Try.underlying143
  a23 := Try.isAgg143
  z23 := Try.sizeOf143
  v23 := Try.zeroValue143

theorem mapsClone {es : List (AV × AV)} : CallOK Try.prog 101 [.map 0] [(0, .map es)] 1 (Out (.map 1) [(1, .map es), (0, .map es)] 2) := by
  refine ⟨Try.call101, fun F V w vs i hf hr => ?_⟩
  obtain ⟨b, xs, clock, hv, hh, h1, h2, h3, h4⟩ := i.objs 0 _ rfl
  have hvs : vs.toArray = #[.map (some b)] := by
    simp only [repL, rep] at hr
    obtain ⟨x, r, rfl, ⟨b', hb', rfl⟩, rfl⟩ := hr
    rw [hv] at hb'
    cases hb'
    rfl
  rw [hvs]
  refine (AnyW.maps_Clone cloneLays b xs clock w hh).mono ?_
  rintro e w' ⟨rfl, rfl⟩
  have hV : V.le (V.addObj 1 w.heap.size) := View.le_addObj (hf 1 (Nat.le_refl _)).1
  obtain ⟨i2, s2, f2⟩ := i.newObj (nx := 1) (ob := .map es) (o := .map xs clock) hf (by simp [own, View.addObj]) ⟨w.heap.size, xs, clock, by simp [View.addObj], heap_new w _, h1.mono (.refl F) hV, h2.mono (.refl F) hV, h3, h4⟩
  exact ⟨_, F, _, .map 1, _, 2, rfl, s2, i2, f2, by simp only [rep, View.addObj]; exact ⟨w.heap.size, by simp, rfl⟩, rfl, rfl, rfl⟩
end Go.Proofs.Ytlifbhcmihnkpaa.Cm

namespace Go.Proofs.Ytlifbhcmihnkpaa.Cm
set_option maxRecDepth 100000
set_option maxHeartbeats 80000000
open Go.Sym

abbrev FN := (List UInt8 × Int) × Nat
def curL (L : List FN) (S : List Nat) : List FN := L.filter fun p => !(decide (p.2 ∈ S) && decide (p.1.2 = 0))
theorem cur_nil (L : List FN) : curL L [] = L := by
  unfold curL
  rw [List.filter_eq_self]
  intro p _
  simp
structure DlI (L : List FN) where
  seen : List Nat
  nd : seen.Nodup
  sub : ∀ n ∈ seen, n ∈ L.map (·.2)
theorem DlI.len {L : List FN} (x : DlI L) : x.seen.length ≤ L.length := by
  have := nodup_len x.nd x.sub
  rwa [List.length_map] at this
theorem cur_mem {L : List FN} {S : List Nat} {p : FN} (h : p ∈ curL L S) : p ∈ L := (List.mem_filter.1 h).1
theorem DlI.lt {L : List FN} (x : DlI L) {n : Nat} (hn : n ∈ L.map (·.2)) (h : n ∉ x.seen) : x.seen.length + 1 ≤ L.length := by
  have := nodup_len (l := n :: x.seen) (List.nodup_cons.2 ⟨h, x.nd⟩) (m := L.map (·.2)) fun y hy => by
    rcases List.mem_cons.1 hy with rfl | hy
    · exact hn
    · exact x.sub y hy
  rwa [List.length_map] at this
def DlI.step {L : List FN} (y : DlI L) {n : Nat} (hn : n ∈ L.map (·.2)) (h : n ∉ y.seen) : DlI L :=
  ⟨n :: y.seen, List.nodup_cons.2 ⟨h, y.nd⟩, fun m hm => by
    rcases List.mem_cons.1 hm with rfl | hm
    · exact hn
    · exact y.sub m hm⟩

theorem once_map {p : FN → Bool} : ∀ {L : List FN}, OnceM (L.map (·.1)) → OnceM ((L.filter p).map (·.1))
  | [], _ => trivial
  | q :: r, ⟨h1, h2⟩ => by
    rw [List.filter_cons]
    split
    · refine ⟨?_, once_map h2⟩
      cases hf : findM ((r.filter p).map (·.1)) q.1.1 with
      | none => rfl
      | some v =>
        obtain ⟨z, hz, e⟩ := List.mem_map.1 (findM_mem hf)
        have : (q.1.1, v) ∈ r.map (·.1) := List.mem_map.2 ⟨z, (List.mem_filter.1 hz).1, e⟩
        rw [mem_findM h2 this] at h1
        cases h1
    · exact once_map h2
theorem no_key {k : List UInt8} : ∀ {L : List FN}, findM (L.map (·.1)) k = none → L.filter (fun p => decide (p.1.1 ≠ k)) = L := fun {L} h => by
  rw [List.filter_eq_self]
  intro p hp
  refine decide_eq_true fun e => ?_
  induction L with
  | nil => cases hp
  | cons q r ih =>
    simp only [List.map_cons, findM] at h
    split at h
    · cases h
    · rename_i hne
      rcases List.mem_cons.1 hp with rfl | hp
      · exact hne e.symm
      · exact ih h hp
theorem delM_cur {k : List UInt8} : ∀ {L : List FN}, OnceM (L.map (·.1)) → delM (L.map (·.1)) k = (L.filter fun p => decide (p.1.1 ≠ k)).map (·.1)
  | [], _ => rfl
  | q :: r, ⟨h1, h2⟩ => by
    rw [List.map_cons, List.filter_cons]
    show delM ((q.1.1, q.1.2) :: _) k = _
    simp only [delM]
    by_cases h : k = q.1.1
    · subst h
      rw [if_pos rfl, if_neg (by simp), no_key h1]
    · rw [if_neg h, if_pos (by simpa using fun e => h e.symm), delM_cur h2]
      rfl
theorem delB_cur {k : List UInt8} : ∀ {L : List FN}, OnceM (L.map (·.1)) → delB (fE (L.map (·.1))) (.str k) (L.map (·.2)) = (L.filter fun p => decide (p.1.1 ≠ k)).map (·.2)
  | [], _ => rfl
  | q :: r, ⟨h1, h2⟩ => by
    have ih := delB_cur (k := k) h2
    rw [List.filter_cons]
    simp only [fE, List.map_cons, delB, keyEq_str] at ih ⊢
    by_cases h : k = q.1.1
    · subst h
      rw [decide_eq_true rfl]
      simp only [cond_true]
      rw [if_neg (by simp), no_key h1]
    · rw [decide_eq_false h]
      simp only [cond_false]
      rw [if_pos (by simpa using fun e => h e.symm), ih]
      rfl
/-- Numbers, and keys, stand once. -/
structure FOk (L : List FN) : Prop where
  keys : OnceM (L.map (·.1))
  nums : (L.map (·.2)).Pairwise (· < ·)
theorem FOk.key {L : List FN} (h : FOk L) {p q : FN} (hp : p ∈ L) (hq : q ∈ L) (e : p.1.1 = q.1.1) : p = q := by
  have k1 := mem_findM h.keys (List.mem_map.2 ⟨p, hp, rfl⟩ : (p.1.1, p.1.2) ∈ L.map (·.1))
  have k2 := mem_findM h.keys (List.mem_map.2 ⟨q, hq, rfl⟩ : (q.1.1, q.1.2) ∈ L.map (·.1))
  have hnd := once_nodup h.keys
  rw [List.map_map] at hnd
  obtain ⟨i, hi⟩ := List.mem_iff_getElem?.1 hp
  obtain ⟨j, hj⟩ := List.mem_iff_getElem?.1 hq
  obtain ⟨hil, hie⟩ := List.getElem?_eq_some_iff.1 hi
  obtain ⟨hjl, hje⟩ := List.getElem?_eq_some_iff.1 hj
  have hpw := List.pairwise_iff_getElem.1 hnd
  have hij : i = j := by
    rcases Nat.lt_trichotomy i j with q1 | q1 | q1
    · have := hpw i j (by rw [List.length_map]; exact hil) (by rw [List.length_map]; exact hjl) q1
      rw [List.getElem_map, List.getElem_map, hie, hje] at this
      exact absurd e this
    · exact q1
    · have := hpw j i (by rw [List.length_map]; exact hjl) (by rw [List.length_map]; exact hil) q1
      rw [List.getElem_map, List.getElem_map, hie, hje] at this
      exact absurd e.symm this
  rw [hij, hj] at hi
  cases hi
  rfl
theorem FOk.num {L : List FN} (h : FOk L) {p q : FN} (hp : p ∈ L) (hq : q ∈ L) (e : p.2 = q.2) : p = q := by
  obtain ⟨i, hi⟩ := List.mem_iff_getElem?.1 hp
  obtain ⟨j, hj⟩ := List.mem_iff_getElem?.1 hq
  have : i = j := pair_inj h.nums (n := p.2) (by rw [List.getElem?_map, hi]; rfl) (by rw [List.getElem?_map, hj, e]; rfl)
  rw [this, hj] at hi
  cases hi
  rfl
theorem cur_zero {L : List FN} (h : FOk L) {S : List Nat} {p : FN} (hp : p ∈ L) (hz : p.1.2 = 0) : curL L (p.2 :: S) = (curL L S).filter fun q => decide (q.1.1 ≠ p.1.1) := by
  unfold curL
  rw [List.filter_filter]
  refine List.filter_congr fun q hq => ?_
  by_cases e : q.1.1 = p.1.1
  · obtain rfl := h.key hq hp e
    simp [hz]
  · have hn : q.2 ≠ p.2 := fun e2 => e (by rw [h.num hq hp e2])
    simp [e, hn]
theorem cur_keep {L : List FN} (h : FOk L) {S : List Nat} {p : FN} (hp : p ∈ L) (hz : p.1.2 ≠ 0) : curL L (p.2 :: S) = curL L S := by
  unfold curL
  refine List.filter_congr fun q hq => ?_
  by_cases e : q.2 = p.2
  · obtain rfl := h.num hq hp e
    simp [hz]
  · simp [e]
theorem cur_all {L : List FN} {S : List Nat} (h : ∀ n ∈ (curL L S).map (·.2), n ∈ S) : (curL L S).map (·.1) = nzM (L.map (·.1)) := by
  have : curL L S = L.filter fun p => decide (p.1.2 ≠ 0) := by
    unfold curL at h ⊢
    refine List.filter_congr fun q hq => ?_
    by_cases hz : q.1.2 = 0
    · by_cases hs : q.2 ∈ S
      · simp [hz, hs]
      · exact absurd (h q.2 (List.mem_map.2 ⟨q, List.mem_filter.2 ⟨hq, by simp [hs]⟩, rfl⟩)) hs
    · simp [hz]
  rw [this]
  unfold nzM
  rw [List.filter_map]
  rfl

theorem sameDel {k : List UInt8} {n : Int} : CallOK Try.prog 103 [.str k, .int .i64 n] [] 0 (Out (.bool (n == 0)) [] 0) := by
  refine callOK Try.call103 Try.func103 Try.ntmps103 rfl ?_
  conv => arg 4; whnf
  exact ⟨rfl, rfl, rfl⟩

theorem mapsDel {l : List (List UInt8 × Int)} (ho : OnceM l) : CallOK Try.prog 102 [.map 0, .fn 103 []] [(0, .map (fE l))] 1 (Out (.tup []) [(0, .map (fE (nzM l)))] 1) := by
  refine CallOK.fit (by decide) ?_
  refine callOK Try.call102 Try.func102 Try.ntmps102 rfl ?_
  conv => arg 4; whnf
  intro bs c h1 h2 h3
  (conv => arg 4; whnf); repeat (refine ⟨rfl, ?_⟩; conv => arg 4; whnf)
  have h1 : bs.length = l.length := by simpa [fE] using h1
  obtain ⟨L, hL⟩ : ∃ L : List FN, L = l.zip bs := ⟨_, rfl⟩
  have hLa : L.map (·.1) = l := by rw [hL]; exact List.map_fst_zip (by omega)
  have hLb : L.map (·.2) = bs := by rw [hL]; exact List.map_snd_zip (by omega)
  have ok : FOk L := ⟨by rw [hLa]; exact ho, by rw [hLb]; exact h3⟩
  refine tri_loopG (ι := DlI L) (fun x => ⟨[(7, .ptr 1 0), (0, .map 0), (1, .fn 103 [])], [(1, .iter 0 c x.seen c), (0, .mapN (fE ((curL L x.seen).map (·.1))) ((curL L x.seen).map (·.2)) c)], 2, 19⟩) (fun x => L.length - x.seen.length) ⟨[], List.nodup_nil, fun n hn => by cases hn⟩ ?_ ?_
  · refine WkG.of rfl rfl ⟨Le.refl _ _, Le.refl _ _, Le.refl _ _, trivial⟩ ⟨⟨_, rfl, LeO.refl _ _⟩, ⟨_, rfl, ?_⟩, trivial⟩ ⟨rfl, rfl, rfl, trivial⟩ ⟨⟨by decide, rfl⟩, ⟨by decide, ClO.fN _ _ _ _⟩, trivial⟩
    rw [cur_nil, hLa, hLb]
    exact LeO.refl _ _
  intro y
  have hyl := y.len
  have hb : ∀ n ∈ (curL L y.seen).map (·.2), n < c := fun n hn => by
    obtain ⟨p, hp, rfl⟩ := List.mem_map.1 hn
    exact h2 _ (by rw [← hLb]; exact List.mem_map.2 ⟨p, cur_mem hp, rfl⟩)
  conv => arg 4; whnf
  refine ⟨⟨hb, .inr (rng_ok (by simp [fE]) hb)⟩, fun i n kv hi hkv hn => ?_, fun hall => ?_⟩
  · obtain ⟨x, hx, rfl⟩ := fE_get hkv
    obtain ⟨p, hp, hpx, hpn⟩ : ∃ p, (curL L y.seen)[i]? = some p ∧ p.1 = x ∧ p.2 = n := by
      rw [List.getElem?_map] at hi hx
      obtain ⟨p, hp, e⟩ := Option.map_eq_some_iff.1 hi
      rw [hp] at hx
      exact ⟨p, hp, by simpa using hx, e⟩
    subst hpx; subst hpn
    have hpL : p ∈ L := cur_mem (List.mem_of_getElem? hp)
    have hnL : p.2 ∈ L.map (·.2) := List.mem_map.2 ⟨p, hpL, rfl⟩
    (conv => arg 4; whnf); repeat (refine ⟨rfl, ?_⟩; conv => arg 4; whnf)
    refine ⟨i, _, hi, hkv, ?_⟩
    (conv => arg 4; whnf); repeat (refine ⟨rfl, ?_⟩; conv => arg 4; whnf)
    refine call0 sameDel (by (repeat' (first | with_reducible assumption | exact ClL.nil | exact Cl.int _ _ | exact Cl.bool _ | exact Cl.bl _ | exact Cl.bs _ | exact Cl.str _ | exact Cl.nils | exact Cl.nilp | exact Cl.rec _ | exact Cl.bat _ | exact Cl.recsV _ | exact Cl.strsV _ | exact Cl.intsV _ | exact Cl.req _ | exact Cl.rsp _ | exact Cl.reqA _ | exact Cl.rspA _ | exact Cl.batsV _ | exact Cl.prsV _ | exact Cl.atsV _ | exact Cl.entA _ _ | exact Cl.ent _ | exact Cl.rr _ _ | exact Cl.foundA _ | exact Cl.getB _ | exact Cl.encA _ | exact Cl.firstA _ | refine ClL.cons ?_ ?_ | refine Cl.tup ?_ | refine Cl.agg ?_ | exact ClO.RO _ _))) (by (repeat' (first | with_reducible assumption | exact ClL.nil | exact Cl.int _ _ | exact Cl.bool _ | exact Cl.bl _ | exact Cl.bs _ | exact Cl.str _ | exact Cl.nils | exact Cl.nilp | exact Cl.rec _ | exact Cl.bat _ | exact Cl.recsV _ | exact Cl.strsV _ | exact Cl.intsV _ | exact Cl.req _ | exact Cl.rsp _ | exact Cl.reqA _ | exact Cl.rspA _ | exact Cl.batsV _ | exact Cl.prsV _ | exact Cl.atsV _ | exact Cl.entA _ _ | exact Cl.ent _ | exact Cl.rr _ _ | exact Cl.foundA _ | exact Cl.getB _ | exact Cl.encA _ | exact Cl.firstA _ | refine ClL.cons ?_ ?_ | refine Cl.tup ?_ | refine Cl.agg ?_ | exact ClO.RO _ _))) ?_
    (conv => arg 4; whnf); repeat (refine ⟨rfl, ?_⟩; conv => arg 4; whnf)
    refine ⟨fun hz => ?_, fun hz => ?_⟩
    · have hz : p.1.2 = 0 := by simpa using hz
      (conv => arg 4; whnf); repeat (refine ⟨rfl, ?_⟩; conv => arg 4; whnf)
      refine ⟨askF _ _, ?_⟩
      (conv => arg 4; whnf); repeat (refine ⟨rfl, ?_⟩; conv => arg 4; whnf)
      refine ⟨y.step hnL hn, by show L.length - (y.seen.length + 1) < L.length - y.seen.length; have := y.lt hnL hn; omega, WkG.of rfl rfl ⟨Le.refl _ _, Le.refl _ _, Le.refl _ _, trivial⟩ ⟨⟨_, rfl, LeO.refl _ _⟩, ⟨_, rfl, ?_⟩, trivial⟩ ⟨rfl, rfl, rfl, trivial⟩ ⟨⟨by decide, rfl⟩, ⟨by decide, ClO.fN _ _ _ _⟩, trivial⟩⟩
      show LeO _ (.mapN (delE (fE ((curL L y.seen).map (·.1))) (.str p.1.1)) (delB (fE ((curL L y.seen).map (·.1))) (.str p.1.1) ((curL L y.seen).map (·.2))) c) (.mapN (fE ((curL L (p.2 :: y.seen)).map (·.1))) ((curL L (p.2 :: y.seen)).map (·.2)) c)
      have hko : OnceM ((curL L y.seen).map (·.1)) := once_map ok.keys
      rw [del_fE, delM_cur hko, delB_cur hko, cur_zero ok hpL hz]
      exact LeO.refl _ _
    · have hz : p.1.2 ≠ 0 := by simpa using hz
      (conv => arg 4; whnf); repeat (refine ⟨rfl, ?_⟩; conv => arg 4; whnf)
      refine ⟨y.step hnL hn, by show L.length - (y.seen.length + 1) < L.length - y.seen.length; have := y.lt hnL hn; omega, WkG.of rfl rfl ⟨Le.refl _ _, Le.refl _ _, Le.refl _ _, trivial⟩ ⟨⟨_, rfl, LeO.refl _ _⟩, ⟨_, rfl, ?_⟩, trivial⟩ ⟨rfl, rfl, rfl, trivial⟩ ⟨⟨by decide, rfl⟩, ⟨by decide, ClO.fN _ _ _ _⟩, trivial⟩⟩
      show LeO _ (.mapN (fE ((curL L y.seen).map (·.1))) ((curL L y.seen).map (·.2)) c) (.mapN (fE ((curL L (p.2 :: y.seen)).map (·.1))) ((curL L (p.2 :: y.seen)).map (·.2)) c)
      rw [cur_keep ok hpL hz]
      exact LeO.refl _ _
  · (conv => arg 4; whnf); repeat (refine ⟨rfl, ?_⟩; conv => arg 4; whnf)
    refine fin_exit ?_
    show holds _ _ _ _
    conv => arg 4; whnf
    refine ⟨by decide, Le.refl _ _, ⟨⟨_, rfl, ?_⟩, trivial⟩, (Cl.tup ClL.nil) _, ⟨⟨by decide, ClO.fE _ _⟩, trivial⟩⟩
    show fE ((curL L y.seen).map (·.1)) = fE (nzM l)
    rw [cur_all hall, hLa]
end Go.Proofs.Ytlifbhcmihnkpaa.Cm

namespace Go.Proofs.Ytlifbhcmihnkpaa.Cm
set_option maxRecDepth 100000
set_option maxHeartbeats 80000000
open Go.Sym

theorem idx_two (i j x : Nat) : idx x [i, j] = bif Nat.beq i x then some 0 else bif Nat.beq j x then some 1 else none := by
  unfold idx
  cases Nat.beq i x with
  | true => rfl
  | false =>
    unfold idx
    cases Nat.beq j x with
    | true => rfl
    | false => rfl
theorem keepH_two {nx i j : Nat} {o0 o1 q0 q1 : AObj} {h0 : Heap} (g0 : get h0 0 = some o0) (g1 : get h0 1 = some o1) (hij : Nat.beq i j = false)
    (e0 : renO (rho nx [i, j]) o0 = q0) (e1 : renO (rho nx [i, j]) o1 = q1) : ∀ h : Heap, keepH nx [i, j] h0 h = updA (updA h i q0) j q1
  | [] => rfl
  | (x, o) :: r => by
    rw [keepH_cons, keepH_two g0 g1 hij e0 e1 r, idx_two, updA_cons]
    cases hx : Nat.beq i x with
    | true =>
      have := Nat.eq_of_beq_eq_true hx
      subst this
      simp only [cond_true]
      rw [updA_cons, beq_no hij, g0]
      show (i, renO _ o0) :: _ = _
      rw [e0]
      rfl
    | false =>
      simp only [cond_false]
      rw [updA_cons]
      cases hy : Nat.beq j x with
      | true =>
        have := Nat.eq_of_beq_eq_true hy
        subst this
        simp only [cond_true]
        rw [g1]
        show (j, renO _ o1) :: _ = _
        rw [e1]
      | false => simp only [cond_false]
theorem callTwo {P : Program} {Q : AExit → St → Prop} {K : AV → Heap → Nat → Prop} {g : FuncId} {args args0 : List AV} {h : Heap} {nx : Nat} {a1 : AV} {kk : AV → Heap → Nat → R} {o0 o1 : AObj} (i j : Nat)
    (c : CallOK P g args0 [(1, o1), (0, o0)] 2 (Out a1 [(1, o1), (0, o0)] 2)) (hok : okNames nx [i, j] = true) (hij : Nat.beq i j = false) (h0 : ClO o0) (h1 : ClO o1)
    (hi : get h i = some o0) (hj : get h j = some o1) (hargs : args = renL (rho nx [i, j]) args0) (ha : Cl a1)
    (hk : holds P Q K (withHeap (updA (updA h i o0) j o1) fun h => kk a1 h nx)) : holds P Q K (.call g args h nx kk) :=
  CallOK.frame (names := [i, j]) c hok ⟨⟨by simp, by rw [h1]; exact hj⟩, ⟨by simp, by rw [h0]; exact hi⟩, trivial⟩ hargs fun a0 h0' m' ⟨e1, e2, e3⟩ => by
    subst e1; subst e2; subst e3
    rw [ha]
    have : mergeH nx [i, j] h [(1, o1), (0, o0)] = updA (updA h i o0) j o1 := by
      show newH nx [i, j] (keepH nx [i, j] [(1, o1), (0, o0)] h) [(1, o1), (0, o0)] = _
      rw [keepH_two rfl rfl hij (h0 _) (h1 _)]
      rfl
    rw [this]
    rw [withHeap_eq] at hk
    exact hk

theorem keepH_one' {nx i : Nat} {o0 : AObj} {h0 : Heap} (g0 : get h0 0 = some o0) (hc : ClO o0) : ∀ h : Heap, keepH nx [i] h0 h = updA h i o0
  | [] => rfl
  | (j, x) :: r => by
    rw [keepH_cons, keepH_one' g0 hc r, updA_cons]
    unfold idx
    cases hj : Nat.beq i j with
    | true =>
      simp only [cond_true]
      rw [g0]
      show (j, renO _ o0) :: _ = _
      rw [hc]
    | false => rfl
theorem callCl {P : Program} {Q : AExit → St → Prop} {K : AV → Heap → Nat → Prop} {g : FuncId} {args args0 : List AV} {h : Heap} {nx : Nat} {kk : AV → Heap → Nat → R} {o0 o1 : AObj} (i : Nat)
    (c : CallOK P g args0 [(0, o0)] 1 (Out (.map 1) [(1, o1), (0, o0)] 2)) (hok : okNames nx [i] = true) (h0 : ClO o0) (h1 : ClO o1) (hi : get h i = some o0) (hargs : args = renL (rho nx [i]) args0)
    (hk : holds P Q K (withHeap ((nx, o1) :: updA h i o0) fun h => kk (.map nx) h (nx + 1))) : holds P Q K (.call g args h nx kk) :=
  CallOK.frame (names := [i]) c hok ⟨⟨by simp, by rw [h0]; exact hi⟩, trivial⟩ hargs fun a0 h0' m' ⟨e1, e2, e3⟩ => by
    subst e1; subst e2; subst e3
    have : mergeH nx [i] h [(1, o1), (0, o0)] = (nx, o1) :: updA h i o0 := by
      show (nx + 0, renO (rho nx [i]) o1) :: keepH nx [i] [(1, o1), (0, o0)] h = _
      rw [keepH_one' rfl h0, h1]
      rfl
    rw [this]
    rw [withHeap_eq] at hk
    exact hk

theorem sameZero {l : List (List UInt8 × Int)} (ho : OnceM l) : CallOK Try.prog 100 [.map 0] [(0, .map (fE l))] 1 (Out (.map 1) [(1, .map (fE (nzM l))), (0, .map (fE l))] 2) := by
  refine CallOK.fit (by decide) ?_
  refine callOK Try.call100 Try.func100 Try.ntmps100 rfl ?_
  conv => arg 4; whnf
  refine callCl 0 (mapsClone (es := fE l)) rfl (ClO.fE _) (ClO.fE _) rfl rfl ?_
  (conv => arg 4; whnf); repeat (refine ⟨rfl, ?_⟩; conv => arg 4; whnf)
  refine call1 1 (mapsDel ho) rfl rfl (ClO.fE _) (ClO.fE _) rfl (Cl.tup ClL.nil) ?_
  (conv => arg 4; whnf); repeat (refine ⟨rfl, ?_⟩; conv => arg 4; whnf)
  refine ⟨by decide, Le.refl _ _, ⟨⟨_, rfl, LeO.refl _ _⟩, ⟨_, rfl, LeO.refl _ _⟩, trivial⟩, rfl, ⟨⟨by decide, ClO.fE _ _⟩, ⟨by decide, ClO.fE _ _⟩, trivial⟩⟩
theorem cmSame {m m' : List (MK × Int)} {f f' : List (List UInt8 × Int)} (hf : OnceM f) (hf' : OnceM f') : CallOK Try.prog 54 [.ptr 2 0, .ptr 5 0] [(5, .cells [.map 3, .map 4]), (4, .map (fE f')), (3, .map (mE m')), (2, .cells [.map 0, .map 1]), (1, .map (fE f)), (0, .map (mE m))] 6 (Out (.bool (eqMp m m' && eqMp (nzM f) (nzM f'))) [(5, .cells [.map 3, .map 4]), (4, .map (fE f')), (3, .map (mE m')), (2, .cells [.map 0, .map 1]), (1, .map (fE f)), (0, .map (mE m))] 6) := by
  refine CallOK.fit (by decide) ?_
  refine callOK Try.call54 Try.func54 Try.ntmps54 rfl ?_
  conv => arg 4; whnf
  refine callTab 0 1 2 (cmNone (m := m) (f := f)) rfl rfl rfl rfl rfl rfl rfl rfl rfl ?_
  (conv => arg 4; whnf); repeat (refine ⟨rfl, ?_⟩; conv => arg 4; whnf)
  refine callTab 3 4 5 (cmNone (m := m') (f := f')) rfl rfl rfl rfl rfl rfl rfl rfl rfl ?_
  (conv => arg 4; whnf); repeat (refine ⟨rfl, ?_⟩; conv => arg 4; whnf)
  refine callTwo 0 3 (mapsEqM (a := m) (b := m')) rfl rfl (ClO.mE _) (ClO.mE _) rfl rfl rfl (Cl.bool _) ?_
  (conv => arg 4; whnf); repeat (refine ⟨rfl, ?_⟩; conv => arg 4; whnf)
  refine ⟨fun hb => ?_, fun hb => ?_⟩
  · (conv => arg 4; whnf); repeat (refine ⟨rfl, ?_⟩; conv => arg 4; whnf)
    refine callCl 1 (sameZero hf) rfl (ClO.fE _) (ClO.fE _) rfl rfl ?_
    (conv => arg 4; whnf); repeat (refine ⟨rfl, ?_⟩; conv => arg 4; whnf)
    refine callCl 4 (sameZero hf') rfl (ClO.fE _) (ClO.fE _) rfl rfl ?_
    (conv => arg 4; whnf); repeat (refine ⟨rfl, ?_⟩; conv => arg 4; whnf)
    refine callTwo 6 7 (mapsEqF (a := nzM f) (b := nzM f')) rfl rfl (ClO.fE _) (ClO.fE _) rfl rfl rfl (Cl.bool _) ?_
    (conv => arg 4; whnf); repeat (refine ⟨rfl, ?_⟩; conv => arg 4; whnf)
    rw [hb, Bool.true_and]
    refine ⟨by decide, Le.refl _ _, ⟨⟨_, rfl, LeO.refl _ _⟩, ⟨_, rfl, LeO.refl _ _⟩, ⟨_, rfl, LeO.refl _ _⟩, ⟨_, rfl, LeO.refl _ _⟩, ⟨_, rfl, LeO.refl _ _⟩, ⟨_, rfl, LeO.refl _ _⟩, trivial⟩, (Cl.bool _) _, ⟨⟨by decide, rfl⟩, ⟨by decide, ClO.fE _ _⟩, ⟨by decide, ClO.mE _ _⟩, ⟨by decide, rfl⟩, ⟨by decide, ClO.fE _ _⟩, ⟨by decide, ClO.mE _ _⟩, trivial⟩⟩
  · (conv => arg 4; whnf); repeat (refine ⟨rfl, ?_⟩; conv => arg 4; whnf)
    rw [hb, Bool.false_and]
    refine ⟨by decide, Le.bl, ⟨⟨_, rfl, LeO.refl _ _⟩, ⟨_, rfl, LeO.refl _ _⟩, ⟨_, rfl, LeO.refl _ _⟩, ⟨_, rfl, LeO.refl _ _⟩, ⟨_, rfl, LeO.refl _ _⟩, ⟨_, rfl, LeO.refl _ _⟩, trivial⟩, (Cl.bool _) _, ⟨⟨by decide, rfl⟩, ⟨by decide, ClO.fE _ _⟩, ⟨by decide, ClO.mE _ _⟩, ⟨by decide, rfl⟩, ⟨by decide, ClO.fE _ _⟩, ⟨by decide, ClO.mE _ _⟩, trivial⟩⟩
end Go.Proofs.Ytlifbhcmihnkpaa.Cm

namespace Go.Proofs.Ytlifbhcmihnkpaa.Cm
set_option maxRecDepth 100000
set_option maxHeartbeats 80000000
open Go.Sym

inductive Opr where
  | o (e : Ent) (now : Int)
  | g (gr : List UInt8) (n now : Int)
def Opr.key : Opr → List UInt8
  | .o e _ => keyO e
  | .g gr _ _ => keyG gr
def Opr.rec' : Opr → Rec
  | .o e now => recR (keyO e) e.o now
  | .g gr n now => recR (keyG gr) n now
def Opr.ok : Opr → Prop
  | .o e _ => mayE e = true
  | .g gr n _ => mayG gr n = true ∧ 0 < n
def mkOf (e : Ent) : MK := (e.g, e.t, e.p)
def stepM (m : List (MK × Int)) : Opr → List (MK × Int)
  | .o e _ => setM m (mkOf e) e.o
  | .g .. => m
def stepF (f : List (List UInt8 × Int)) : Opr → List (List UInt8 × Int)
  | .o .. => f
  | .g gr n _ => setM f gr (max ((findM f gr).getD 0) n)
def runM (l : List Opr) : List (MK × Int) := l.foldl stepM []
def runF (l : List Opr) : List (List UInt8 × Int) := l.foldl stepF []
theorem runM_snoc (l : List Opr) (p : Opr) : runM (l ++ [p]) = stepM (runM l) p := by simp [runM]
theorem runF_snoc (l : List Opr) (p : Opr) : runF (l ++ [p]) = stepF (runF l) p := by simp [runF]

theorem once_stepM {m : List (MK × Int)} (h : OnceM m) (p : Opr) : OnceM (stepM m p) := by
  cases p with
  | o e now => exact once_set _ _ h
  | g gr n now => exact h
theorem once_stepF {f : List (List UInt8 × Int)} (h : OnceM f) (p : Opr) : OnceM (stepF f p) := by
  cases p with
  | o e now => exact h
  | g gr n now => exact once_set _ _ h
theorem once_foldM : ∀ (l : List Opr) {m : List (MK × Int)}, OnceM m → OnceM (l.foldl stepM m)
  | [], _, h => h
  | p :: l, _, h => once_foldM l (once_stepM h p)
theorem once_foldF : ∀ (l : List Opr) {m : List (List UInt8 × Int)}, OnceM m → OnceM (l.foldl stepF m)
  | [], _, h => h
  | p :: l, _, h => once_foldF l (once_stepF h p)
theorem once_runM (l : List Opr) : OnceM (runM l) := once_foldM l trivial
theorem once_runF (l : List Opr) : OnceM (runF l) := once_foldF l trivial

/-- What the last one of a key says. -/
def lkM : List Opr → MK → Option Int
  | [], _ => none
  | p :: r, k => match lkM r k with
    | some v => some v
    | none => match p with
      | .o e _ => if k = mkOf e then some e.o else none
      | .g .. => none
theorem find_foldM (k : MK) : ∀ (l : List Opr) (m : List (MK × Int)), findM (l.foldl stepM m) k = match lkM l k with | some v => some v | none => findM m k
  | [], m => rfl
  | p :: r, m => by
    rw [List.foldl_cons, find_foldM k r]
    simp only [lkM]
    cases lkM r k with
    | some v => rfl
    | none =>
      cases p with
      | g gr n now => rfl
      | o e now =>
        simp only [stepM, find_set]
        by_cases h : k = mkOf e
        · rw [if_pos h, if_pos h]
        · rw [if_neg h, if_neg h]
def lkF : List Opr → List UInt8 → Option Int
  | [], _ => none
  | p :: r, k => match lkF r k with
    | some v => some v
    | none => match p with
      | .g gr n _ => if k = gr then some n else none
      | .o .. => none

/-- Floors rise. -/
def AscF : List Opr → List (List UInt8 × Int) → Prop
  | [], _ => True
  | p :: r, f => (match p with | .g gr n _ => (findM f gr).getD 0 ≤ n | .o _ _ => True) ∧ AscF r (stepF f p)
theorem asc_snoc : ∀ {l : List Opr} {p : Opr} {f : List (List UInt8 × Int)}, AscF l f → (match p with | .g gr n _ => (findM (l.foldl stepF f) gr).getD 0 ≤ n | .o _ _ => True) → AscF (l ++ [p]) f
  | [], p, f, _, h => ⟨h, trivial⟩
  | q :: l, p, f, ⟨h1, h2⟩, h => ⟨h1, asc_snoc h2 h⟩
theorem find_foldF (k : List UInt8) : ∀ {l : List Opr} {f : List (List UInt8 × Int)}, AscF l f → findM (l.foldl stepF f) k = match lkF l k with | some v => some v | none => findM f k
  | [], _, _ => rfl
  | p :: r, f, ⟨h1, h2⟩ => by
    rw [List.foldl_cons, find_foldF k h2]
    simp only [lkF]
    cases lkF r k with
    | some v => rfl
    | none =>
      cases p with
      | o e now => rfl
      | g gr n now =>
        have h1 : (findM f gr).getD 0 ≤ n := h1
        simp only [stepF, find_set]
        by_cases h : k = gr
        · rw [if_pos h, if_pos h, show max ((findM f gr).getD 0) n = n by omega]
        · rw [if_neg h, if_neg h]

/-- Those alone that are the last of their keys. -/
def lasts : List Opr → List Opr
  | [] => []
  | p :: r => if r.all (fun q => decide (q.key ≠ p.key)) then p :: lasts r else lasts r
def lastsN : List Opr → Nat → List Opr
  | [], _ => []
  | _ :: _, 0 => []
  | p :: r, i + 1 => if r.all (fun q => decide (q.key ≠ p.key)) then p :: lastsN r i else lastsN r i
theorem lastsN_zero : ∀ l : List Opr, lastsN l 0 = []
  | [] => rfl
  | _ :: _ => rfl
theorem lastsN_all : ∀ l : List Opr, lastsN l l.length = lasts l
  | [] => rfl
  | p :: r => by simp only [List.length_cons, lastsN, lasts, lastsN_all r]
theorem lastsN_step : ∀ {l : List Opr} {i : Nat} {p : Opr}, l[i]? = some p → lastsN l (i + 1) = lastsN l i ++ (if (l.drop (i + 1)).all (fun q => decide (q.key ≠ p.key)) then [p] else [])
  | [], i, p, h => by simp at h
  | q :: r, 0, p, h => by
    simp only [List.getElem?_cons_zero, Option.some.injEq] at h
    subst h
    simp only [lastsN, lastsN_zero, List.nil_append, Nat.zero_add, List.drop_succ_cons, List.drop_zero]
  | q :: r, i + 1, p, h => by
    rw [List.getElem?_cons_succ] at h
    simp only [lastsN, List.drop_succ_cons] at *
    rw [lastsN_step h]
    split
    · rfl
    · rfl
theorem lasts_mem : ∀ {l : List Opr} {p : Opr}, p ∈ lasts l → p ∈ l
  | [], _, h => h
  | q :: r, p, h => by
    simp only [lasts] at h
    split at h
    · rcases List.mem_cons.1 h with rfl | h
      · exact List.mem_cons_self
      · exact List.mem_cons_of_mem _ (lasts_mem h)
    · exact List.mem_cons_of_mem _ (lasts_mem h)

theorem len_ne {s : List UInt8} (h : s.length ≤ 20) (r : List UInt8) : bytesR (lenB s ++ r) 0 20 = (s, r, 0) := bytesR_put (by omega) (by omega)
theorem keyO_inj {e e' : Ent} (h : mayE e = true) (h' : mayE e' = true) (hk : keyO e = keyO e') : mkOf e = mkOf e' := by
  have n := mayE_nums h
  have n' := mayE_nums h'
  have a := len_ne (s := [111]) (by decide) (lenB e.g ++ (lenB e.t ++ put e.p))
  have a' := len_ne (s := [111]) (by decide) (lenB e'.g ++ (lenB e'.t ++ put e'.p))
  have k1 : keyO e = lenB [111] ++ (lenB e.g ++ (lenB e.t ++ put e.p)) := by simp only [keyO, List.append_assoc]
  have k2 : keyO e' = lenB [111] ++ (lenB e'.g ++ (lenB e'.t ++ put e'.p)) := by simp only [keyO, List.append_assoc]
  rw [← k1, hk, k2, a'] at a
  simp only [Prod.mk.injEq, true_and, and_true] at a
  have b := len_ne (s := e.g) n.2.2.1 (lenB e.t ++ put e.p)
  have b' := len_ne (s := e'.g) n'.2.2.1 (lenB e'.t ++ put e'.p)
  rw [← a, b'] at b
  simp only [Prod.mk.injEq, and_true] at b
  have c := len_ne (s := e.t) n.2.2.2 (put e.p)
  have c' := len_ne (s := e'.t) n'.2.2.2 (put e'.p)
  rw [← b.2, c'] at c
  simp only [Prod.mk.injEq, and_true] at c
  have d := numR_put n.1 []
  have d' := numR_put n'.1 []
  rw [List.append_nil] at d d'
  rw [← c.2, d'] at d
  simp only [Prod.mk.injEq, and_true] at d
  unfold mkOf
  rw [b.1, c.1, d]
theorem keyG_inj {g g' : List UInt8} {n n' : Int} (h : mayG g n = true) (h' : mayG g' n' = true) (hk : keyG g = keyG g') : g = g' := by
  have m := mayG_nums h
  have m' := mayG_nums h'
  have a := len_ne (s := [103]) (by decide) (lenB g)
  have a' := len_ne (s := [103]) (by decide) (lenB g')
  have k1 : keyG g = lenB [103] ++ lenB g := rfl
  have k2 : keyG g' = lenB [103] ++ lenB g' := rfl
  rw [← k1, hk, k2, a'] at a
  simp only [Prod.mk.injEq, true_and, and_true] at a
  have b := len_ne (s := g) m.2 []
  have b' := len_ne (s := g') m'.2 []
  rw [List.append_nil] at b b'
  rw [← a, b'] at b
  simp only [Prod.mk.injEq, and_true] at b
  exact b.symm
theorem key_ne (e : Ent) (g : List UInt8) : keyO e ≠ keyG g := fun hk => by
  have a := len_ne (s := [111]) (by decide) (lenB e.g ++ (lenB e.t ++ put e.p))
  have a' := len_ne (s := [103]) (by decide) (lenB g)
  have k1 : keyO e = lenB [111] ++ (lenB e.g ++ (lenB e.t ++ put e.p)) := by simp only [keyO, List.append_assoc]
  have k2 : keyG g = lenB [103] ++ lenB g := rfl
  rw [← k1, hk, k2, a'] at a
  simp at a
theorem lkM_some {k : MK} : ∀ {l : List Opr}, (∃ e now, Opr.o e now ∈ l ∧ k = mkOf e) → lkM l k ≠ none
  | [], ⟨e, now, h, _⟩ => by cases h
  | p :: r, ⟨e, now, h, hk⟩ => by
    simp only [lkM]
    rcases List.mem_cons.1 h with rfl | h
    · cases lkM r k with
      | some v => simp
      | none => simp [hk]
    · have := lkM_some ⟨e, now, h, hk⟩
      cases hq : lkM r k with
      | none => exact absurd hq this
      | some v => simp
theorem lkF_some {k : List UInt8} : ∀ {l : List Opr}, (∃ n now, Opr.g k n now ∈ l) → lkF l k ≠ none
  | [], ⟨n, now, h⟩ => by cases h
  | p :: r, ⟨n, now, h⟩ => by
    simp only [lkF]
    rcases List.mem_cons.1 h with rfl | h
    · cases lkF r k with
      | some v => simp
      | none => simp
    · have := lkF_some ⟨n, now, h⟩
      cases hq : lkF r k with
      | none => exact absurd hq this
      | some v => simp
theorem lkM_lasts (k : MK) : ∀ {l : List Opr}, (∀ p ∈ l, p.ok) → lkM (lasts l) k = lkM l k
  | [], _ => rfl
  | p :: r, hok => by
    have ih := lkM_lasts k fun q hq => hok q (List.mem_cons_of_mem _ hq)
    simp only [lasts]
    split
    · simp only [lkM, ih]
    · rename_i hn
      rw [ih]
      simp only [lkM]
      cases hr : lkM r k with
      | some v => rfl
      | none =>
        cases p with
        | g gr n now => rfl
        | o e now =>
          have : k ≠ mkOf e := fun hk => by
            rw [List.all_eq_true] at hn
            refine hn fun q hq => decide_eq_true fun hkey => ?_
            refine lkM_some ?_ hr
            cases q with
            | g gr n now' => exact absurd hkey.symm (key_ne e gr)
            | o e' now' => exact ⟨e', now', hq, by rw [hk]; exact keyO_inj (hok _ List.mem_cons_self) (hok _ (List.mem_cons_of_mem _ hq)) hkey.symm⟩
          simp [this]
theorem lkF_lasts (k : List UInt8) : ∀ {l : List Opr}, (∀ p ∈ l, p.ok) → lkF (lasts l) k = lkF l k
  | [], _ => rfl
  | p :: r, hok => by
    have ih := lkF_lasts k fun q hq => hok q (List.mem_cons_of_mem _ hq)
    simp only [lasts]
    split
    · simp only [lkF, ih]
    · rename_i hn
      rw [ih]
      simp only [lkF]
      cases hr : lkF r k with
      | some v => rfl
      | none =>
        cases p with
        | o e now => rfl
        | g gr n now =>
          have : k ≠ gr := fun hk => by
            rw [List.all_eq_true] at hn
            refine hn fun q hq => decide_eq_true fun hkey => ?_
            refine lkF_some ?_ hr
            cases q with
            | o e' now' => exact absurd hkey (key_ne e' gr)
            | g gr' n' now' =>
              have h1 : mayG gr n = true ∧ 0 < n := hok _ List.mem_cons_self
              have h2 : mayG gr' n' = true ∧ 0 < n' := hok _ (List.mem_cons_of_mem _ hq)
              exact ⟨n', now', by rw [hk, keyG_inj h1.1 h2.1 hkey.symm]; exact hq⟩
          simp [this]
theorem asc_lasts : ∀ {l : List Opr} {f : List (List UInt8 × Int)}, (∀ p ∈ l, p.ok) → (∀ gr n now, Opr.g gr n now ∈ lasts l → findM f gr = none) → AscF (lasts l) f
  | [], _, _, _ => trivial
  | p :: r, f, hok, hf => by
    have hok' : ∀ q ∈ r, q.ok := fun q hq => hok q (List.mem_cons_of_mem _ hq)
    simp only [lasts] at hf ⊢
    split
    · rename_i ha
      rw [if_pos ha] at hf
      rw [List.all_eq_true] at ha
      refine ⟨?_, asc_lasts hok' fun gr n now hm => ?_⟩
      · cases p with
        | o e now => trivial
        | g gr n now =>
          have h1 : mayG gr n = true ∧ 0 < n := hok _ List.mem_cons_self
          show (findM f gr).getD 0 ≤ n
          rw [hf gr n now List.mem_cons_self]
          show (0 : Int) ≤ n
          omega
      · have h0 := hf gr n now (List.mem_cons_of_mem _ hm)
        cases p with
        | o e now' => exact h0
        | g gr' n' now' =>
          show findM (setM f gr' _) gr = none
          rw [find_set, if_neg, h0]
          intro e
          have := of_decide_eq_true (ha _ (lasts_mem hm))
          exact this (by show keyG gr = keyG gr'; rw [e])
    · rename_i ha
      rw [if_neg ha] at hf
      exact asc_lasts hok' hf

/-- The tables are the same. -/
theorem back_m {l : List Opr} (hok : ∀ p ∈ l, p.ok) : eqMp (runM l) (runM (lasts l)) = true :=
  eqMp_of (once_runM _) (once_runM _) fun k => by
    unfold runM
    rw [find_foldM, find_foldM, lkM_lasts k hok]
theorem back_f {l : List Opr} (hok : ∀ p ∈ l, p.ok) (ha : AscF l []) : eqMp (nzM (runF l)) (nzM (runF (lasts l))) = true :=
  eqMp_of (once_filter _ (once_runF _)) (once_filter _ (once_runF _)) fun k => by
    have : findM (runF l) k = findM (runF (lasts l)) k := by
      unfold runF
      rw [find_foldF k ha, find_foldF k (asc_lasts hok fun _ _ _ _ => rfl), lkF_lasts k hok]
    unfold nzM
    rw [find_filter (once_runF _), find_filter (once_runF _), this]
theorem same_m {K : Type} [DecidableEq K] {m : List (K × Int)} (h : OnceM m) : eqMp m m = true := eqMp_of h h fun _ => rfl
end Go.Proofs.Ytlifbhcmihnkpaa.Cm

namespace Go.Proofs.Ytlifbhcmihnkpaa.Cm
set_option maxRecDepth 100000
set_option maxHeartbeats 80000000
open Go.Sym

theorem applyOp {m : List (MK × Int)} {f : List (List UInt8 × Int)} {p : Opr} (h : p.ok) : CallOK Try.prog 49 [.ptr 2 0, p.rec'.av] (TH m f) 3 (Out (.int .i64 0) (TH (stepM m p) (stepF f p)) 3) := by
  cases p with
  | o e now =>
    have h : mayE e = true := h
    have hpl : mayE ⟨e.g, e.t, e.p, 0⟩ = true := by
      unfold mayE place at h ⊢
      simp only [Bool.and_eq_true, decide_eq_true_eq] at h ⊢
      exact ⟨h.1, by omega⟩
    exact applyO (m := m) (f := f) (r := recR (keyO e) e.o now) (e := e) (hv := true) rfl rfl rfl (fun _ => ⟨rfl, h⟩) hpl
  | g gr n now =>
    have h : mayG gr n = true ∧ 0 < n := h
    have hpl : mayG gr 0 = true := by
      have := h.1
      unfold mayG at this ⊢
      simp only [Bool.and_eq_true, decide_eq_true_eq] at this ⊢
      exact ⟨this.1, by omega⟩
    exact applyG (m := m) (f := f) (r := recR (keyG gr) n now) (g := gr) (n := n) (hv := true) rfl rfl rfl (fun _ => ⟨rfl, h.1⟩) hpl

theorem nilNone : CallOK Try.prog 97 [.nilp] [] 0 (Out (.bl true) [] 0) := by
  refine callOK Try.call97 Try.func97 Try.ntmps97 rfl ?_
  conv => arg 4; whnf
  exact ⟨rfl, rfl, rfl⟩
theorem nilGet {g t : List UInt8} {p : Int} : CallOK Try.prog 50 [.nilp, .str g, .str t, .int .i64 p] [] 0 (Out (.tup [.int .i64 0, .bl false]) [] 0) := by
  refine CallOK.fit (by decide) ?_
  refine callOK Try.call50 Try.func50 Try.ntmps50 rfl ?_
  conv => arg 4; whnf
  refine call0 nilNone (by (repeat' (first | with_reducible assumption | exact ClL.nil | exact Cl.int _ _ | exact Cl.bool _ | exact Cl.bl _ | exact Cl.bs _ | exact Cl.str _ | exact Cl.nils | exact Cl.nilp | exact Cl.rec _ | exact Cl.bat _ | exact Cl.recsV _ | exact Cl.strsV _ | exact Cl.intsV _ | exact Cl.req _ | exact Cl.rsp _ | exact Cl.reqA _ | exact Cl.rspA _ | exact Cl.batsV _ | exact Cl.prsV _ | exact Cl.atsV _ | exact Cl.entA _ _ | exact Cl.ent _ | exact Cl.rr _ _ | exact Cl.foundA _ | exact Cl.getB _ | exact Cl.encA _ | exact Cl.firstA _ | refine ClL.cons ?_ ?_ | refine Cl.tup ?_ | refine Cl.agg ?_ | exact ClO.RO _ _))) (by (repeat' (first | with_reducible assumption | exact ClL.nil | exact Cl.int _ _ | exact Cl.bool _ | exact Cl.bl _ | exact Cl.bs _ | exact Cl.str _ | exact Cl.nils | exact Cl.nilp | exact Cl.rec _ | exact Cl.bat _ | exact Cl.recsV _ | exact Cl.strsV _ | exact Cl.intsV _ | exact Cl.req _ | exact Cl.rsp _ | exact Cl.reqA _ | exact Cl.rspA _ | exact Cl.batsV _ | exact Cl.prsV _ | exact Cl.atsV _ | exact Cl.entA _ _ | exact Cl.ent _ | exact Cl.rr _ _ | exact Cl.foundA _ | exact Cl.getB _ | exact Cl.encA _ | exact Cl.firstA _ | refine ClL.cons ?_ ?_ | refine Cl.tup ?_ | refine Cl.agg ?_ | exact ClO.RO _ _))) ?_
  (conv => arg 4; whnf); repeat (refine ⟨rfl, ?_⟩; conv => arg 4; whnf)
  exact ⟨by decide, Le.refl _ _, trivial, (by (repeat' (first | with_reducible assumption | exact ClL.nil | exact Cl.int _ _ | exact Cl.bool _ | exact Cl.bl _ | exact Cl.bs _ | exact Cl.str _ | exact Cl.nils | exact Cl.nilp | exact Cl.rec _ | exact Cl.bat _ | exact Cl.recsV _ | exact Cl.strsV _ | exact Cl.intsV _ | exact Cl.req _ | exact Cl.rsp _ | exact Cl.reqA _ | exact Cl.rspA _ | exact Cl.batsV _ | exact Cl.prsV _ | exact Cl.atsV _ | exact Cl.entA _ _ | exact Cl.ent _ | exact Cl.rr _ _ | exact Cl.foundA _ | exact Cl.getB _ | exact Cl.encA _ | exact Cl.firstA _ | refine ClL.cons ?_ ?_ | refine Cl.tup ?_ | refine Cl.agg ?_ | exact ClO.RO _ _)) : Cl _) _, trivial⟩
theorem nilPut {e : Ent} : CallOK Try.prog 47 [.nilp, e.av] [] 0 (Out (.int .i64 1) [] 0) := by
  refine CallOK.fit (by decide) ?_
  refine callOK Try.call47 Try.func47 Try.ntmps47 rfl ?_
  conv => arg 4; whnf
  refine call0 nilNone (by (repeat' (first | with_reducible assumption | exact ClL.nil | exact Cl.int _ _ | exact Cl.bool _ | exact Cl.bl _ | exact Cl.bs _ | exact Cl.str _ | exact Cl.nils | exact Cl.nilp | exact Cl.rec _ | exact Cl.bat _ | exact Cl.recsV _ | exact Cl.strsV _ | exact Cl.intsV _ | exact Cl.req _ | exact Cl.rsp _ | exact Cl.reqA _ | exact Cl.rspA _ | exact Cl.batsV _ | exact Cl.prsV _ | exact Cl.atsV _ | exact Cl.entA _ _ | exact Cl.ent _ | exact Cl.rr _ _ | exact Cl.foundA _ | exact Cl.getB _ | exact Cl.encA _ | exact Cl.firstA _ | refine ClL.cons ?_ ?_ | refine Cl.tup ?_ | refine Cl.agg ?_ | exact ClO.RO _ _))) (by (repeat' (first | with_reducible assumption | exact ClL.nil | exact Cl.int _ _ | exact Cl.bool _ | exact Cl.bl _ | exact Cl.bs _ | exact Cl.str _ | exact Cl.nils | exact Cl.nilp | exact Cl.rec _ | exact Cl.bat _ | exact Cl.recsV _ | exact Cl.strsV _ | exact Cl.intsV _ | exact Cl.req _ | exact Cl.rsp _ | exact Cl.reqA _ | exact Cl.rspA _ | exact Cl.batsV _ | exact Cl.prsV _ | exact Cl.atsV _ | exact Cl.entA _ _ | exact Cl.ent _ | exact Cl.rr _ _ | exact Cl.foundA _ | exact Cl.getB _ | exact Cl.encA _ | exact Cl.firstA _ | refine ClL.cons ?_ ?_ | refine Cl.tup ?_ | refine Cl.agg ?_ | exact ClO.RO _ _))) ?_
  (conv => arg 4; whnf); repeat (refine ⟨rfl, ?_⟩; conv => arg 4; whnf)
  exact ⟨by decide, Le.refl _ _, trivial, (by (repeat' (first | with_reducible assumption | exact ClL.nil | exact Cl.int _ _ | exact Cl.bool _ | exact Cl.bl _ | exact Cl.bs _ | exact Cl.str _ | exact Cl.nils | exact Cl.nilp | exact Cl.rec _ | exact Cl.bat _ | exact Cl.recsV _ | exact Cl.strsV _ | exact Cl.intsV _ | exact Cl.req _ | exact Cl.rsp _ | exact Cl.reqA _ | exact Cl.rspA _ | exact Cl.batsV _ | exact Cl.prsV _ | exact Cl.atsV _ | exact Cl.entA _ _ | exact Cl.ent _ | exact Cl.rr _ _ | exact Cl.foundA _ | exact Cl.getB _ | exact Cl.encA _ | exact Cl.firstA _ | refine ClL.cons ?_ ?_ | refine Cl.tup ?_ | refine Cl.agg ?_ | exact ClO.RO _ _)) : Cl _) _, trivial⟩
theorem nilGen {g : List UInt8} {n : Int} : CallOK Try.prog 48 [.nilp, .str g, .int .i64 n] [] 0 (Out (.int .i64 1) [] 0) := by
  refine CallOK.fit (by decide) ?_
  refine callOK Try.call48 Try.func48 Try.ntmps48 rfl ?_
  conv => arg 4; whnf
  refine call0 nilNone (by (repeat' (first | with_reducible assumption | exact ClL.nil | exact Cl.int _ _ | exact Cl.bool _ | exact Cl.bl _ | exact Cl.bs _ | exact Cl.str _ | exact Cl.nils | exact Cl.nilp | exact Cl.rec _ | exact Cl.bat _ | exact Cl.recsV _ | exact Cl.strsV _ | exact Cl.intsV _ | exact Cl.req _ | exact Cl.rsp _ | exact Cl.reqA _ | exact Cl.rspA _ | exact Cl.batsV _ | exact Cl.prsV _ | exact Cl.atsV _ | exact Cl.entA _ _ | exact Cl.ent _ | exact Cl.rr _ _ | exact Cl.foundA _ | exact Cl.getB _ | exact Cl.encA _ | exact Cl.firstA _ | refine ClL.cons ?_ ?_ | refine Cl.tup ?_ | refine Cl.agg ?_ | exact ClO.RO _ _))) (by (repeat' (first | with_reducible assumption | exact ClL.nil | exact Cl.int _ _ | exact Cl.bool _ | exact Cl.bl _ | exact Cl.bs _ | exact Cl.str _ | exact Cl.nils | exact Cl.nilp | exact Cl.rec _ | exact Cl.bat _ | exact Cl.recsV _ | exact Cl.strsV _ | exact Cl.intsV _ | exact Cl.req _ | exact Cl.rsp _ | exact Cl.reqA _ | exact Cl.rspA _ | exact Cl.batsV _ | exact Cl.prsV _ | exact Cl.atsV _ | exact Cl.entA _ _ | exact Cl.ent _ | exact Cl.rr _ _ | exact Cl.foundA _ | exact Cl.getB _ | exact Cl.encA _ | exact Cl.firstA _ | refine ClL.cons ?_ ?_ | refine Cl.tup ?_ | refine Cl.agg ?_ | exact ClO.RO _ _))) ?_
  (conv => arg 4; whnf); repeat (refine ⟨rfl, ?_⟩; conv => arg 4; whnf)
  exact ⟨by decide, Le.refl _ _, trivial, (by (repeat' (first | with_reducible assumption | exact ClL.nil | exact Cl.int _ _ | exact Cl.bool _ | exact Cl.bl _ | exact Cl.bs _ | exact Cl.str _ | exact Cl.nils | exact Cl.nilp | exact Cl.rec _ | exact Cl.bat _ | exact Cl.recsV _ | exact Cl.strsV _ | exact Cl.intsV _ | exact Cl.req _ | exact Cl.rsp _ | exact Cl.reqA _ | exact Cl.rspA _ | exact Cl.batsV _ | exact Cl.prsV _ | exact Cl.atsV _ | exact Cl.entA _ _ | exact Cl.ent _ | exact Cl.rr _ _ | exact Cl.foundA _ | exact Cl.getB _ | exact Cl.encA _ | exact Cl.firstA _ | refine ClL.cons ?_ ?_ | refine Cl.tup ?_ | refine Cl.agg ?_ | exact ClO.RO _ _)) : Cl _) _, trivial⟩
theorem nilApply {r : Rec} : CallOK Try.prog 49 [.nilp, r.av] [] 0 (Out (.int .i64 1) [] 0) := by
  refine CallOK.fit (by decide) ?_
  refine callOK Try.call49 Try.func49 Try.ntmps49 rfl ?_
  conv => arg 4; whnf
  refine call0 nilNone (by (repeat' (first | with_reducible assumption | exact ClL.nil | exact Cl.int _ _ | exact Cl.bool _ | exact Cl.bl _ | exact Cl.bs _ | exact Cl.str _ | exact Cl.nils | exact Cl.nilp | exact Cl.rec _ | exact Cl.bat _ | exact Cl.recsV _ | exact Cl.strsV _ | exact Cl.intsV _ | exact Cl.req _ | exact Cl.rsp _ | exact Cl.reqA _ | exact Cl.rspA _ | exact Cl.batsV _ | exact Cl.prsV _ | exact Cl.atsV _ | exact Cl.entA _ _ | exact Cl.ent _ | exact Cl.rr _ _ | exact Cl.foundA _ | exact Cl.getB _ | exact Cl.encA _ | exact Cl.firstA _ | refine ClL.cons ?_ ?_ | refine Cl.tup ?_ | refine Cl.agg ?_ | exact ClO.RO _ _))) (by (repeat' (first | with_reducible assumption | exact ClL.nil | exact Cl.int _ _ | exact Cl.bool _ | exact Cl.bl _ | exact Cl.bs _ | exact Cl.str _ | exact Cl.nils | exact Cl.nilp | exact Cl.rec _ | exact Cl.bat _ | exact Cl.recsV _ | exact Cl.strsV _ | exact Cl.intsV _ | exact Cl.req _ | exact Cl.rsp _ | exact Cl.reqA _ | exact Cl.rspA _ | exact Cl.batsV _ | exact Cl.prsV _ | exact Cl.atsV _ | exact Cl.entA _ _ | exact Cl.ent _ | exact Cl.rr _ _ | exact Cl.foundA _ | exact Cl.getB _ | exact Cl.encA _ | exact Cl.firstA _ | refine ClL.cons ?_ ?_ | refine Cl.tup ?_ | refine Cl.agg ?_ | exact ClO.RO _ _))) ?_
  (conv => arg 4; whnf); repeat (refine ⟨rfl, ?_⟩; conv => arg 4; whnf)
  exact ⟨by decide, Le.refl _ _, trivial, (by (repeat' (first | with_reducible assumption | exact ClL.nil | exact Cl.int _ _ | exact Cl.bool _ | exact Cl.bl _ | exact Cl.bs _ | exact Cl.str _ | exact Cl.nils | exact Cl.nilp | exact Cl.rec _ | exact Cl.bat _ | exact Cl.recsV _ | exact Cl.strsV _ | exact Cl.intsV _ | exact Cl.req _ | exact Cl.rsp _ | exact Cl.reqA _ | exact Cl.rspA _ | exact Cl.batsV _ | exact Cl.prsV _ | exact Cl.atsV _ | exact Cl.entA _ _ | exact Cl.ent _ | exact Cl.rr _ _ | exact Cl.foundA _ | exact Cl.getB _ | exact Cl.encA _ | exact Cl.firstA _ | refine ClL.cons ?_ ?_ | refine Cl.tup ?_ | refine Cl.agg ?_ | exact ClO.RO _ _)) : Cl _) _, trivial⟩
theorem nilFloor {g : List UInt8} : CallOK Try.prog 51 [.nilp, .str g] [] 0 (Out (.int .i64 0) [] 0) := by
  refine CallOK.fit (by decide) ?_
  refine callOK Try.call51 Try.func51 Try.ntmps51 rfl ?_
  conv => arg 4; whnf
  refine call0 nilNone (by (repeat' (first | with_reducible assumption | exact ClL.nil | exact Cl.int _ _ | exact Cl.bool _ | exact Cl.bl _ | exact Cl.bs _ | exact Cl.str _ | exact Cl.nils | exact Cl.nilp | exact Cl.rec _ | exact Cl.bat _ | exact Cl.recsV _ | exact Cl.strsV _ | exact Cl.intsV _ | exact Cl.req _ | exact Cl.rsp _ | exact Cl.reqA _ | exact Cl.rspA _ | exact Cl.batsV _ | exact Cl.prsV _ | exact Cl.atsV _ | exact Cl.entA _ _ | exact Cl.ent _ | exact Cl.rr _ _ | exact Cl.foundA _ | exact Cl.getB _ | exact Cl.encA _ | exact Cl.firstA _ | refine ClL.cons ?_ ?_ | refine Cl.tup ?_ | refine Cl.agg ?_ | exact ClO.RO _ _))) (by (repeat' (first | with_reducible assumption | exact ClL.nil | exact Cl.int _ _ | exact Cl.bool _ | exact Cl.bl _ | exact Cl.bs _ | exact Cl.str _ | exact Cl.nils | exact Cl.nilp | exact Cl.rec _ | exact Cl.bat _ | exact Cl.recsV _ | exact Cl.strsV _ | exact Cl.intsV _ | exact Cl.req _ | exact Cl.rsp _ | exact Cl.reqA _ | exact Cl.rspA _ | exact Cl.batsV _ | exact Cl.prsV _ | exact Cl.atsV _ | exact Cl.entA _ _ | exact Cl.ent _ | exact Cl.rr _ _ | exact Cl.foundA _ | exact Cl.getB _ | exact Cl.encA _ | exact Cl.firstA _ | refine ClL.cons ?_ ?_ | refine Cl.tup ?_ | refine Cl.agg ?_ | exact ClO.RO _ _))) ?_
  (conv => arg 4; whnf); repeat (refine ⟨rfl, ?_⟩; conv => arg 4; whnf)
  exact ⟨by decide, Le.refl _ _, trivial, (by (repeat' (first | with_reducible assumption | exact ClL.nil | exact Cl.int _ _ | exact Cl.bool _ | exact Cl.bl _ | exact Cl.bs _ | exact Cl.str _ | exact Cl.nils | exact Cl.nilp | exact Cl.rec _ | exact Cl.bat _ | exact Cl.recsV _ | exact Cl.strsV _ | exact Cl.intsV _ | exact Cl.req _ | exact Cl.rsp _ | exact Cl.reqA _ | exact Cl.rspA _ | exact Cl.batsV _ | exact Cl.prsV _ | exact Cl.atsV _ | exact Cl.entA _ _ | exact Cl.ent _ | exact Cl.rr _ _ | exact Cl.foundA _ | exact Cl.getB _ | exact Cl.encA _ | exact Cl.firstA _ | refine ClL.cons ?_ ?_ | refine Cl.tup ?_ | refine Cl.agg ?_ | exact ClO.RO _ _)) : Cl _) _, trivial⟩

theorem succ18 {i : Nat} (h : i < 1000000000000001) : AV.int .i64 (IntKind.i64.wrap ((i : Int) + 1)) = AV.int .i64 ((i + 1 : Nat) : Int) := by
  have : IntKind.i64.wrap ((i : Int) + 1) = ((i + 1 : Nat) : Int) := by rw [IntKind.wrap_i64]; omega
  rw [this]

structure Stp where
  kind : Int
  e : Ent
  n : Int
  r : Rec
def Stp.av (s : Stp) : AV := .agg [.int .i64 s.kind, .str s.e.g, .str s.e.t, .int .i64 s.e.p, .int .i64 s.e.o, .int .i64 s.n, .int .i64 s.r.off, .int .i64 s.r.time, .bool s.r.hk, bs s.r.key, .bool s.r.hv, bs s.r.val]
def stpsL (l : List Stp) : List AV := l.map Stp.av
abbrev stpsV (l : List Stp) : AV := .sl .none 12 (stpsL l)
def Stp.fine (s : Stp) : Prop := s.e.g.length ≤ 1000000000000000 ∧ s.e.t.length ≤ 1000000000000000 ∧ s.r.key.length ≤ 1000000000000000 ∧ s.r.val.length ≤ 1000000000000000
def Stp.lit (s : Stp) : Prop := s.e.g.length ≤ 2000 ∧ s.e.t.length ≤ 2000
theorem stps_length (l : List Stp) : (stpsL l).length = l.length := by simp [stpsL]
theorem stps_get {l : List Stp} {i : Nat} {x : Stp} (h : l[i]? = some x) : (stpsL l)[((i : Nat) : Int).toNat]? = some x.av := by simp [stpsL, h]
theorem Cl.stp (s : Stp) : Cl s.av := Cl.agg (ClL.cons (Cl.int _ _) (ClL.cons (Cl.str _) (ClL.cons (Cl.str _) (ClL.cons (Cl.int _ _) (ClL.cons (Cl.int _ _) (ClL.cons (Cl.int _ _) (ClL.cons (Cl.int _ _) (ClL.cons (Cl.int _ _) (ClL.cons (Cl.bool _) (ClL.cons (Cl.bs _) (ClL.cons (Cl.bool _) (ClL.cons (Cl.bs _) ClL.nil))))))))))))
theorem Cl.stpsV (l : List Stp) : Cl (stpsV l) := Cl.sl (ClL.map Cl.stp l)

structure SmI (l : List Stp) where
  i : Nat
  n : Int
  hi : i ≤ l.length
  hn : 0 ≤ n ∧ n ≤ 1099511627776
  hs : n ≤ 2000 → ∀ (j : Nat) (s : Stp), j < i → l[j]? = some s → s.lit

theorem small18 {l : List Stp} (hl : l.length ≤ 1000000000000000) (hf : ∀ s ∈ l, s.fine) : CallOK Try.prog 53 [stpsV l] [] 0 (fun a h m => ∃ b : Bool, (b = true → l.length ≤ 80 ∧ ∀ s ∈ l, s.lit) ∧ Out (.bool b) [] 0 a h m) := by
  refine CallOK.fitE (by decide) ?_
  refine callOK Try.call53 Try.func53 Try.ntmps53 rfl ?_
  conv => arg 4; whnf
  refine tri_loopG (ι := SmI l) (fun x => ⟨[(4, .int .i64 x.i), (3, .int .i64 x.n), (0, stpsV l)], [], 0, 53⟩) (fun x => l.length - x.i) ⟨0, 0, Nat.zero_le _, by omega, fun _ j s hj => absurd hj (Nat.not_lt_zero _)⟩ (WkG.of rfl rfl ⟨Le.refl _ _, Le.refl _ _, Le.refl _ _, trivial⟩ trivial ⟨rfl, rfl, Cl.stpsV _ _, trivial⟩ trivial) ?_
  rintro ⟨i, n, hi, hn, hs⟩
  dsimp only
  conv => arg 4; whnf
  refine ⟨fun h => ?_, fun h => ?_⟩
  · rw [stps_length] at h
    simp only [Bool.cond_true_left, Bool.cond_false_right, Bool.or_eq_true, Bool.and_eq_true, Bool.not_eq_true', decide_eq_true_eq, beq_iff_eq, bne_iff_ne, u8s_length, Bool.not_eq_true, gt_iff_lt, ge_iff_le] at h
    have hlt : i < l.length := by omega
    obtain ⟨x, hx⟩ : ∃ x, l[i]? = some x := ⟨_, List.getElem?_eq_getElem hlt⟩
    (conv => arg 4; whnf); repeat (refine ⟨rfl, ?_⟩; conv => arg 4; whnf)
    repeat (refine ⟨x.av, ⟨by omega, stps_get hx⟩, ?_⟩; (conv => arg 4; whnf); (repeat (refine ⟨rfl, ?_⟩; conv => arg 4; whnf)))
    have hx0 : ∀ y ∈ (x.e.g.length : Int) :: [(x.e.t.length : Int), (x.r.key.length : Int), (x.r.val.length : Int), 1], 0 ≤ y := by
      intro y hy
      simp only [List.mem_cons, List.not_mem_nil, or_false] at hy
      omega
    refine holds_args (args' := [.int .i64 n, .sl .none 0 (ints [(x.e.g.length : Int), x.e.t.length, x.r.key.length, x.r.val.length, 1])]) ⟨Le.refl _ _, Le.noneOf (by rw [u8s_length, u8s_length]; rfl), trivial⟩ ?_
    refine call0E (sumE (n := n) (x := (x.e.g.length : Int)) (xs := [(x.e.t.length : Int), (x.r.key.length : Int), (x.r.val.length : Int), 1]) ⟨hn.1, by omega⟩ hx0 (by simp)) (ClL.cons (Cl.int _ _) (ClL.cons (Cl.intsV _) ClL.nil)) (fun x => by (repeat' (first | with_reducible assumption | exact ClL.nil | exact Cl.int _ _ | exact Cl.bool _ | exact Cl.bl _ | exact Cl.bs _ | exact Cl.str _ | exact Cl.nils | exact Cl.nilp | exact Cl.rec _ | exact Cl.bat _ | exact Cl.recsV _ | exact Cl.strsV _ | exact Cl.intsV _ | exact Cl.req _ | exact Cl.rsp _ | exact Cl.reqA _ | exact Cl.rspA _ | exact Cl.batsV _ | exact Cl.prsV _ | exact Cl.atsV _ | exact Cl.entA _ _ | exact Cl.ent _ | exact Cl.rr _ _ | exact Cl.foundA _ | exact Cl.getB _ | exact Cl.encA _ | exact Cl.firstA _ | refine ClL.cons ?_ ?_ | refine Cl.tup ?_ | refine Cl.agg ?_ | exact ClO.RO _ _))) fun v hv => ?_
    (conv => arg 4; whnf); repeat (refine ⟨rfl, ?_⟩; conv => arg 4; whnf)
    have hv2 : v < 1099511627776 → v = n + (x.e.g.length + (x.e.t.length + (x.r.key.length + (x.r.val.length + 1)))) := fun h => by
      have := hv.2.2 h
      simp only [List.sum_cons, List.sum_nil] at this
      omega
    refine ⟨⟨i + 1, v, by omega, ⟨hv.1, hv.2.1⟩, fun h2 j s hj hs' => ?_⟩, by show l.length - (i + 1) < l.length - i; omega, WkG.of rfl rfl ⟨Le.of_eq (succ18 (by omega)), Le.refl _ _, Le.refl _ _, trivial⟩ trivial ⟨rfl, rfl, Cl.stpsV _ _, trivial⟩ trivial⟩
    have hv3 := hv2 (by omega)
    rcases Nat.lt_or_ge j i with q | q
    · exact hs (by omega) j s q hs'
    · have : j = i := by omega
      subst this
      rw [hx] at hs'
      cases hs'
      unfold Stp.lit
      omega
  · rw [stps_length] at h
    rw [← Bool.not_eq_true] at h; simp only [Bool.cond_true_left, Bool.cond_false_right, Bool.or_eq_true, Bool.and_eq_true, Bool.not_eq_true', decide_eq_true_eq, beq_iff_eq, bne_iff_ne, u8s_length, gt_iff_lt, ge_iff_le] at h
    (conv => arg 4; whnf); repeat (refine ⟨rfl, ?_⟩; conv => arg 4; whnf)
    refine fin_exit ?_
    show holds _ _ _ _
    conv => arg 4; whnf
    refine ⟨bif decide (n ≤ 2000) then decide (((stpsL l).length : Int) ≤ 80) else false, fun hb => ?_, by decide, Le.refl _ _, trivial, (Cl.bool _) _, trivial⟩
    rw [stps_length] at hb
    simp only [Bool.cond_true_left, Bool.cond_false_right, Bool.or_eq_true, Bool.and_eq_true, Bool.not_eq_true', decide_eq_true_eq, beq_iff_eq, bne_iff_ne, u8s_length, Bool.not_eq_true, gt_iff_lt, ge_iff_le] at hb
    refine ⟨by omega, fun s hs' => ?_⟩
    obtain ⟨j, hj⟩ := List.mem_iff_getElem?.1 hs'
    have hjl := (List.getElem?_eq_some_iff.1 hj).1
    exact hs hb.1 j s (by omega) hj
end Go.Proofs.Ytlifbhcmihnkpaa.Cm

namespace Go.Proofs.Ytlifbhcmihnkpaa.Cm
set_option maxRecDepth 100000
set_option maxHeartbeats 80000000
open Go.Sym

theorem callG {P : Program} {Q : AExit → St → Prop} {K : AV → Heap → Nat → Prop} {f : FuncId} {args args0 : List AV} {h h0 h1 h' : Heap} {nx m1 : Nat} {a1 a1' : AV} {k : AV → Heap → Nat → R} (names : List Nat)
    (c : CallOK P f args0 h0 names.length (Out a1 h1 m1)) (hok : okNames nx names = true) (hsub : Sub nx names h h0) (hargs : args = renL (rho nx names) args0) (ha : ren (rho nx names) a1 = a1') (hm : mergeH nx names h h1 = h')
    (hk : holds P Q K (k a1' h' (nx + (m1 - names.length)))) : holds P Q K (.call f args h nx k) :=
  CallOK.frame (names := names) c hok hsub hargs fun a0 h0' m' ⟨e1, e2, e3⟩ => by
    subst e1; subst e2; subst e3
    rw [ha, hm]
    exact hk


structure BkI (l : List Stp) where
  i : Nat
  ops : List Opr
  s : Nat
  hi : i ≤ l.length
  hlen : ops.length ≤ i
  hok : ∀ p ∈ ops, p.ok
  hasc : AscF ops []
abbrev opsL (ops : List Opr) : List AV := recsL (ops.map Opr.rec')
/-- Three tables' objects, and what is appended to. -/
abbrev H3 (m1 m2 m3 : List (MK × Int)) (f1 f2 f3 : List (List UInt8 × Int)) : Heap := [(8, .cells [.map 6, .map 7]), (7, .map (fE f3)), (6, .map (mE m3)), (5, .cells [.map 3, .map 4]), (4, .map (fE f2)), (3, .map (mE m2)), (2, .cells [.map 0, .map 1]), (1, .map (fE f1)), (0, .map (mE m1))]
theorem cut_ops (nx s : Nat) (l : List Rec) : ren (cut 10 nx) (.sl (.tok 9 s) 6 (recsL l)) = .sl (.tok 9 s) 6 (recsL l) := by
  simp only [ren, ren_recs, renP, cut_lt (show 9 < 10 by decide)]

theorem now18 {i : Nat} (h : i < 100) : mayT (i : Int) = true := by
  unfold mayT
  rw [decide_eq_true_eq]
  omega
theorem argsU {nx i j k : Nat} {a : AV} (h : Cl a) : [AV.ptr k 0, a] = renL (rho nx [i, j, k]) [.ptr 2 0, a] := argsT h
theorem ops_snoc (ops : List Opr) (p : Opr) : opsL ops ++ [p.rec'.av] = opsL (ops ++ [p]) := by simp [opsL, recsL]

theorem cmGenNo {m : List (MK × Int)} {f : List (List UInt8 × Int)} {g : List UInt8} {n : Int} (h : mayG g n = false) (hg : g.length ≤ 1000000) : CallOK Try.prog 48 [.ptr 2 0, .str g, .int .i64 n] (TH m f) 3 (Out (.int .i64 1) (TH m f) 3) := by
  have c := cmGen (m := m) (f := f) (g := g) (n := n) hg
  simp only [h, Bool.false_eq_true, if_false] at c
  exact c
theorem lkF_pos {k : List UInt8} {v : Int} : ∀ {l : List Opr}, (∀ p ∈ l, p.ok) → lkF l k = some v → 0 < v
  | [], _, h => by cases h
  | p :: r, hok, h => by
    have ih := lkF_pos (k := k) (v := v) (l := r) fun q hq => hok q (List.mem_cons_of_mem _ hq)
    simp only [lkF] at h
    cases hr : lkF r k with
    | some u =>
      rw [hr] at h
      simp only [Option.some.injEq] at h
      subst h
      exact ih hr
    | none =>
      rw [hr] at h
      cases p with
      | o e now => cases h
      | g gr n now =>
        simp only at h
        split at h
        · have h1 : mayG gr n = true ∧ 0 < n := hok _ List.mem_cons_self
          simp only [Option.some.injEq] at h
          omega
        · cases h
theorem floor_nn {k : List UInt8} {ops : List Opr} (hok : ∀ p ∈ ops, p.ok) (ha : AscF ops []) : 0 ≤ (findM (runF ops) k).getD 0 := by
  unfold runF
  rw [find_foldF k ha]
  cases h : lkF ops k with
  | none => exact Int.le_refl 0
  | some v =>
    have := lkF_pos hok h
    show 0 ≤ v
    omega

structure VkI (ops : List Opr) where
  i : Nat
  hi : i ≤ ops.length

structure KeI (ops : List Opr) (i : Nat) where
  k : Nat
  h1 : i + 1 ≤ k
  h2 : k ≤ ops.length
def keyAll (ops : List Opr) (i : Nat) (p : Opr) (k : Nat) : Bool := ((ops.drop (i + 1)).take (k - (i + 1))).all fun q => decide (q.key ≠ p.key)
theorem keyAll_start (ops : List Opr) (i : Nat) (p : Opr) : keyAll ops i p (i + 1) = true := by
  unfold keyAll
  rw [Nat.sub_self]; rfl
theorem keyAll_step {ops : List Opr} {i k : Nat} {p q : Opr} (h : i + 1 ≤ k) (hq : ops[k]? = some q) : keyAll ops i p (k + 1) = (keyAll ops i p k && decide (q.key ≠ p.key)) := by
  unfold keyAll
  rw [show k + 1 - (i + 1) = (k - (i + 1)) + 1 by omega, List.take_add_one, List.getElem?_drop, show i + 1 + (k - (i + 1)) = k by omega, hq, List.all_append]
  simp
theorem keyAll_end {ops : List Opr} {i : Nat} {p : Opr} : keyAll ops i p ops.length = (ops.drop (i + 1)).all fun q => decide (q.key ≠ p.key) := by
  unfold keyAll
  rw [List.take_of_length_le (by rw [List.length_drop]; omega)]
theorem ops_get {ops : List Opr} {i : Nat} {p : Opr} (h : ops[i]? = some p) : (opsL ops)[((i : Nat) : Int).toNat]? = some p.rec'.av := by
  simp [opsL, recsL, h]
theorem rec_key (p : Opr) : p.rec'.key = p.key := by cases p <;> rfl

theorem key_cmp {ops : List Opr} {i k : Nat} {p q : Opr} (h : i + 1 ≤ k) (hq : ops[k]? = some q) (hb : keyAll ops i p k = true) : (!(q.rec'.key == p.rec'.key)) = keyAll ops i p (k + 1) := by
  rw [keyAll_step h hq, hb, rec_key, rec_key]
  by_cases e : q.key = p.key
  · simp [e]
  · simp [e]
theorem mrgTU {s : Nat} {m1 m2 m3 : List (MK × Int)} {f1 f2 f3 : List (List UInt8 × Int)} : mergeH 10 [0, 1, 2, 3, 4, 5] ((9, .tip s) :: H3 m1 m2 m3 f1 f2 f3) [(5, .cells [.map 3, .map 4]), (4, .map (fE f2)), (3, .map (mE m2)), (2, .cells [.map 0, .map 1]), (1, .map (fE f1)), (0, .map (mE m1))] = (9, .tip s) :: H3 m1 m2 m3 f1 f2 f3 := by
  show [(9, .tip s), (8, .cells [.map 6, .map 7]), (7, .map (fE f3)), (6, .map (mE m3)), (5, .cells [.map 3, .map 4]), (4, renO (rho 10 [0, 1, 2, 3, 4, 5]) (.map (fE f2))), (3, renO (rho 10 [0, 1, 2, 3, 4, 5]) (.map (mE m2))), (2, .cells [.map 0, .map 1]), (1, renO (rho 10 [0, 1, 2, 3, 4, 5]) (.map (fE f1))), (0, renO (rho 10 [0, 1, 2, 3, 4, 5]) (.map (mE m1)))] = _
  rw [ClO.fE f1, ClO.fE f2, ClO.mE m1, ClO.mE m2]
theorem mrgTV {s : Nat} {m1 m2 m3 : List (MK × Int)} {f1 f2 f3 : List (List UInt8 × Int)} : mergeH 10 [0, 1, 2, 6, 7, 8] ((9, .tip s) :: H3 m1 m2 m3 f1 f2 f3) [(5, .cells [.map 3, .map 4]), (4, .map (fE f3)), (3, .map (mE m3)), (2, .cells [.map 0, .map 1]), (1, .map (fE f1)), (0, .map (mE m1))] = (9, .tip s) :: H3 m1 m2 m3 f1 f2 f3 := by
  show [(9, .tip s), (8, .cells [.map 6, .map 7]), (7, renO (rho 10 [0, 1, 2, 6, 7, 8]) (.map (fE f3))), (6, renO (rho 10 [0, 1, 2, 6, 7, 8]) (.map (mE m3))), (5, .cells [.map 3, .map 4]), (4, .map (fE f2)), (3, .map (mE m2)), (2, .cells [.map 0, .map 1]), (1, renO (rho 10 [0, 1, 2, 6, 7, 8]) (.map (fE f1))), (0, renO (rho 10 [0, 1, 2, 6, 7, 8]) (.map (mE m1)))] = _
  rw [ClO.fE f1, ClO.fE f3, ClO.mE m1, ClO.mE m3]

theorem lawBack {l : List Stp} (hl : l.length ≤ 1000000000000000) (hf : ∀ s ∈ l, s.fine) : CallOK Try.prog 9 [stpsV l] [] 0 Tru := by
  refine callOK Try.call9 Try.func9 Try.ntmps9 rfl ?_
  conv => arg 4; whnf
  refine call0E (small18 hl hf) (ClL.cons (Cl.stpsV _) ClL.nil) (fun x => Cl.bool _) fun b hb => ?_
  (conv => arg 4; whnf); repeat (refine ⟨rfl, ?_⟩; conv => arg 4; whnf)
  refine ⟨fun h => ?_, fun h => ?_⟩
  · (conv => arg 4; whnf); repeat (refine ⟨rfl, ?_⟩; conv => arg 4; whnf)
    refine call0 awake18 (by (repeat' (first | with_reducible assumption | exact ClL.nil | exact Cl.int _ _ | exact Cl.bool _ | exact Cl.bl _ | exact Cl.bs _ | exact Cl.str _ | exact Cl.nils | exact Cl.nilp | exact Cl.rec _ | exact Cl.bat _ | exact Cl.recsV _ | exact Cl.strsV _ | exact Cl.intsV _ | exact Cl.req _ | exact Cl.rsp _ | exact Cl.reqA _ | exact Cl.rspA _ | exact Cl.batsV _ | exact Cl.prsV _ | exact Cl.atsV _ | exact Cl.entA _ _ | exact Cl.ent _ | exact Cl.rr _ _ | exact Cl.foundA _ | exact Cl.getB _ | exact Cl.encA _ | exact Cl.firstA _ | refine ClL.cons ?_ ?_ | refine Cl.tup ?_ | refine Cl.agg ?_ | exact ClO.RO _ _))) (by (repeat' (first | with_reducible assumption | exact ClL.nil | exact Cl.int _ _ | exact Cl.bool _ | exact Cl.bl _ | exact Cl.bs _ | exact Cl.str _ | exact Cl.nils | exact Cl.nilp | exact Cl.rec _ | exact Cl.bat _ | exact Cl.recsV _ | exact Cl.strsV _ | exact Cl.intsV _ | exact Cl.req _ | exact Cl.rsp _ | exact Cl.reqA _ | exact Cl.rspA _ | exact Cl.batsV _ | exact Cl.prsV _ | exact Cl.atsV _ | exact Cl.entA _ _ | exact Cl.ent _ | exact Cl.rr _ _ | exact Cl.foundA _ | exact Cl.getB _ | exact Cl.encA _ | exact Cl.firstA _ | refine ClL.cons ?_ ?_ | refine Cl.tup ?_ | refine Cl.agg ?_ | exact ClO.RO _ _))) ?_
    (conv => arg 4; whnf); repeat (refine ⟨rfl, ?_⟩; conv => arg 4; whnf)
    exact .inl rfl
  · have h : b = true := by simpa using h
    obtain ⟨hl80, hlit⟩ := hb h
    (conv => arg 4; whnf); repeat (refine ⟨rfl, ?_⟩; conv => arg 4; whnf)
    refine holds_out [] cmNew rfl trivial rfl ?_
    (conv => arg 4; whnf); repeat (refine ⟨rfl, ?_⟩; conv => arg 4; whnf)
    refine holds_out [] cmNew rfl trivial rfl ?_
    (conv => arg 4; whnf); repeat (refine ⟨rfl, ?_⟩; conv => arg 4; whnf)
    refine holds_out [] cmNew rfl trivial rfl ?_
    (conv => arg 4; whnf); repeat (refine ⟨rfl, ?_⟩; conv => arg 4; whnf)
    refine tri_loopG (ι := BkI l) (fun x => ⟨[(7, .int .i64 x.i), (6, .sl (.tok 9 x.s) 6 (opsL x.ops)), (5, .ptr 8 0), (4, .ptr 5 0), (3, .ptr 2 0), (0, stpsV l)], (9, .tip x.s) :: H3 (runM x.ops) (runM x.ops) [] (runF x.ops) (runF x.ops) [], 10, 229⟩) (fun x => l.length - x.i) ⟨0, [], 0, Nat.zero_le _, Nat.le_refl _, (fun p hp => by cases hp), trivial⟩ (WkG.tok rfl rfl ⟨Le.refl _ _, Le.nilsTok rfl, Le.refl _ _, Le.refl _ _, Le.refl _ _, Le.refl _ _, trivial⟩ ⟨⟨_, rfl, rfl⟩, ⟨_, rfl, LeO.refl _ _⟩, ⟨_, rfl, LeO.refl _ _⟩, ⟨_, rfl, LeO.refl _ _⟩, ⟨_, rfl, LeO.refl _ _⟩, ⟨_, rfl, LeO.refl _ _⟩, ⟨_, rfl, LeO.refl _ _⟩, ⟨_, rfl, LeO.refl _ _⟩, ⟨_, rfl, LeO.refl _ _⟩, ⟨_, rfl, LeO.refl _ _⟩, trivial⟩ ⟨rfl, rfl, rfl, rfl, rfl, Cl.stpsV _ _, trivial⟩ ⟨⟨by decide, rfl⟩, ⟨by decide, rfl⟩, ⟨by decide, rfl⟩, ⟨by decide, rfl⟩, ⟨by decide, rfl⟩, ⟨by decide, rfl⟩, ⟨by decide, rfl⟩, ⟨by decide, rfl⟩, ⟨by decide, rfl⟩, ⟨by decide, rfl⟩, trivial⟩) ?_
    rintro ⟨i, ops, s, hi, hlen, hok, hasc⟩
    dsimp only
    conv => arg 4; whnf
    refine ⟨fun hlt => ?_, fun hlt => ?_⟩
    · have hlt : i < l.length := by rw [stps_length] at hlt; simp at hlt; omega
      obtain ⟨x, hx⟩ : ∃ x, l[i]? = some x := ⟨_, List.getElem?_eq_getElem hlt⟩
      have hxl := hlit x (List.mem_of_getElem? hx)
      (conv => arg 4; whnf); repeat (refine ⟨rfl, ?_⟩; conv => arg 4; whnf)
      refine ⟨x.av, ⟨by omega, stps_get hx⟩, ?_⟩
      (conv => arg 4; whnf); repeat (refine ⟨rfl, ?_⟩; conv => arg 4; whnf)
      refine ⟨x.av, ctxP_of ⟨by omega, stps_get hx⟩, ?_⟩
      conv => arg 4; whnf
      refine ⟨fun hk1 => ?_, fun hk1 => ?_⟩
      · have hk1 : x.kind = 1 := by simpa using hk1
        (conv => arg 4; whnf); repeat (refine ⟨rfl, ?_⟩; conv => arg 4; whnf)
        refine call0 (made18 (e := x.e)) (ClL.cons (Cl.ent x.e) ClL.nil) (Cl.ent x.e) ?_
        (conv => arg 4; whnf); repeat (refine ⟨rfl, ?_⟩; conv => arg 4; whnf)
        by_cases hm : mayE x.e = true
        · refine callTab 0 1 2 (cmPutOk (m := runM ops) (f := runF ops) hm) rfl rfl rfl rfl rfl rfl rfl (argsT (Cl.ent x.e)) rfl ?_
          (conv => arg 4; whnf); repeat (refine ⟨rfl, ?_⟩; conv => arg 4; whnf)
          refine ⟨fun _ => ?_, fun h' => absurd h' (by decide)⟩
          (conv => arg 4; whnf); repeat (refine ⟨rfl, ?_⟩; conv => arg 4; whnf)
          refine ⟨x.av, ⟨by omega, stps_get hx⟩, ?_⟩
          (conv => arg 4; whnf); repeat (refine ⟨rfl, ?_⟩; conv => arg 4; whnf)
          refine call0 (made18 (e := x.e)) (ClL.cons (Cl.ent x.e) ClL.nil) (Cl.ent x.e) ?_
          (conv => arg 4; whnf); repeat (refine ⟨rfl, ?_⟩; conv => arg 4; whnf)
          refine call0 (cmRecordOk (e := x.e) (now := (i : Int)) hm (now18 (by omega))) (ClL.cons (Cl.ent x.e) (ClL.cons (Cl.int _ _) ClL.nil)) (Cl.tup (ClL.cons (Cl.rec _) (ClL.cons (Cl.int _ _) ClL.nil))) ?_
          (conv => arg 4; whnf); repeat (refine ⟨rfl, ?_⟩; conv => arg 4; whnf)
          refine ⟨fun h' => absurd h' (by decide), fun _ => ?_⟩
          (conv => arg 4; whnf); repeat (refine ⟨rfl, ?_⟩; conv => arg 4; whnf)
          refine callTab 3 4 5 (applyOp (m := runM ops) (f := runF ops) (p := .o x.e i) hm) rfl rfl rfl rfl rfl rfl rfl (argsU (Cl.rec _)) rfl ?_
          (conv => arg 4; whnf); repeat (refine ⟨rfl, ?_⟩; conv => arg 4; whnf)
          refine ⟨fun h' => absurd h' (by decide), fun _ => ?_⟩
          (conv => arg 4; whnf); repeat (refine ⟨rfl, ?_⟩; conv => arg 4; whnf)
          refine ⟨⟨rfl, sizeOk 80 rfl ?_⟩, ?_⟩
          · rw [List.length_append, recs_length, List.length_map]; simp only [List.length_cons, List.length_nil]; omega
          (conv => arg 4; whnf); repeat (refine ⟨rfl, ?_⟩; conv => arg 4; whnf)
          refine ⟨x.av, ⟨by omega, stps_get hx⟩, ?_⟩
          (conv => arg 4; whnf); repeat (refine ⟨rfl, ?_⟩; conv => arg 4; whnf)
          refine ⟨fun h' => absurd h' (by rw [hk1]; decide), fun _ => ?_⟩
          (conv => arg 4; whnf); repeat (refine ⟨rfl, ?_⟩; conv => arg 4; whnf)
          exact ⟨⟨i + 1, ops ++ [.o x.e i], s + 1, by omega, by rw [List.length_append, List.length_singleton]; omega, fun q hq => by
          rcases List.mem_append.1 hq with hq | hq
          · exact hok q hq
          · rw [List.mem_singleton.1 hq]; exact hm, asc_snoc hasc (trivial)⟩, by show l.length - (i + 1) < l.length - i; omega, WkG.of rfl rfl ⟨Le.of_eq (succ18 (by omega)), Le.of_eq (congrArg (AV.sl (.tok 9 (s + 1)) 6) (ops_snoc ops (.o x.e i))), Le.refl _ _, Le.refl _ _, Le.refl _ _, Le.refl _ _, trivial⟩ ⟨⟨_, rfl, LeO.refl _ _⟩, ⟨_, rfl, LeO.refl _ _⟩, ⟨_, rfl, LeO.refl _ _⟩, ⟨_, rfl, LeO.refl _ _⟩, ⟨_, rfl, LeO.refl _ _⟩, ⟨_, rfl, show fE _ = fE _ by rw [runF_snoc] <;> rfl⟩, ⟨_, rfl, show mE _ = mE _ by rw [runM_snoc] <;> rfl⟩, ⟨_, rfl, LeO.refl _ _⟩, ⟨_, rfl, show fE _ = fE _ by rw [runF_snoc] <;> rfl⟩, ⟨_, rfl, show mE _ = mE _ by rw [runM_snoc] <;> rfl⟩, trivial⟩ ⟨rfl, cut_ops _ _ _, rfl, rfl, rfl, Cl.stpsV _ _, trivial⟩ ⟨⟨by decide, rfl⟩, ⟨by decide, rfl⟩, ⟨by decide, ClO.fE _ _⟩, ⟨by decide, ClO.mE _ _⟩, ⟨by decide, rfl⟩, ⟨by decide, ClO.fE _ _⟩, ⟨by decide, ClO.mE _ _⟩, ⟨by decide, rfl⟩, ⟨by decide, ClO.fE _ _⟩, ⟨by decide, ClO.mE _ _⟩, trivial⟩⟩
        · have hm : mayE x.e = false := by simpa using hm
          refine callTab 0 1 2 (cmPutNo (m := runM ops) (f := runF ops) hm (by have := hxl.1; omega) (by have := hxl.2; omega)) rfl rfl rfl rfl rfl rfl rfl (argsT (Cl.ent x.e)) rfl ?_
          (conv => arg 4; whnf); repeat (refine ⟨rfl, ?_⟩; conv => arg 4; whnf)
          refine ⟨fun h' => absurd h' (by decide), fun _ => ?_⟩
          (conv => arg 4; whnf); repeat (refine ⟨rfl, ?_⟩; conv => arg 4; whnf)
          refine ⟨x.av, ⟨by omega, stps_get hx⟩, ?_⟩
          (conv => arg 4; whnf); repeat (refine ⟨rfl, ?_⟩; conv => arg 4; whnf)
          refine ⟨fun h' => absurd h' (by rw [hk1]; decide), fun _ => ?_⟩
          (conv => arg 4; whnf); repeat (refine ⟨rfl, ?_⟩; conv => arg 4; whnf)
          exact ⟨⟨i + 1, ops, s, by omega, by omega, hok, hasc⟩, by show l.length - (i + 1) < l.length - i; omega, WkG.of rfl rfl ⟨Le.of_eq (succ18 (by omega)), Le.refl _ _, Le.refl _ _, Le.refl _ _, Le.refl _ _, Le.refl _ _, trivial⟩ ⟨⟨_, rfl, LeO.refl _ _⟩, ⟨_, rfl, LeO.refl _ _⟩, ⟨_, rfl, LeO.refl _ _⟩, ⟨_, rfl, LeO.refl _ _⟩, ⟨_, rfl, LeO.refl _ _⟩, ⟨_, rfl, LeO.refl _ _⟩, ⟨_, rfl, LeO.refl _ _⟩, ⟨_, rfl, LeO.refl _ _⟩, ⟨_, rfl, LeO.refl _ _⟩, ⟨_, rfl, LeO.refl _ _⟩, trivial⟩ ⟨rfl, cut_ops _ _ _, rfl, rfl, rfl, Cl.stpsV _ _, trivial⟩ ⟨⟨by decide, rfl⟩, ⟨by decide, rfl⟩, ⟨by decide, ClO.fE _ _⟩, ⟨by decide, ClO.mE _ _⟩, ⟨by decide, rfl⟩, ⟨by decide, ClO.fE _ _⟩, ⟨by decide, ClO.mE _ _⟩, ⟨by decide, rfl⟩, ⟨by decide, ClO.fE _ _⟩, ⟨by decide, ClO.mE _ _⟩, trivial⟩⟩
      · (conv => arg 4; whnf); repeat (refine ⟨rfl, ?_⟩; conv => arg 4; whnf)
        refine ⟨x.av, ⟨by omega, stps_get hx⟩, ?_⟩
        (conv => arg 4; whnf); repeat (refine ⟨rfl, ?_⟩; conv => arg 4; whnf)
        refine ⟨fun hk2 => ?_, fun hk2 => ?_⟩
        · (conv => arg 4; whnf); repeat (refine ⟨rfl, ?_⟩; conv => arg 4; whnf)
          refine ⟨x.av, ⟨by omega, stps_get hx⟩, ?_⟩
          (conv => arg 4; whnf); repeat (refine ⟨rfl, ?_⟩; conv => arg 4; whnf)
          refine ⟨x.av, ⟨by omega, stps_get hx⟩, ?_⟩
          (conv => arg 4; whnf); repeat (refine ⟨rfl, ?_⟩; conv => arg 4; whnf)
          refine callTab 0 1 2 (cmFloor (m := runM ops) (f := runF ops) (g := x.e.g)) rfl rfl rfl rfl rfl rfl rfl rfl rfl ?_
          (conv => arg 4; whnf); repeat (refine ⟨rfl, ?_⟩; conv => arg 4; whnf)
          refine ⟨fun hgt => ?_, fun hgt => ?_⟩
          · have hgt : (findM (runF ops) x.e.g).getD 0 < x.n := by simpa using hgt
            have hn0 : 0 < x.n := by have := floor_nn (k := x.e.g) hok hasc; omega
            (conv => arg 4; whnf); repeat (refine ⟨rfl, ?_⟩; conv => arg 4; whnf)
            refine ⟨x.av, ⟨by omega, stps_get hx⟩, ?_⟩
            (conv => arg 4; whnf); repeat (refine ⟨rfl, ?_⟩; conv => arg 4; whnf)
            refine ⟨x.av, ⟨by omega, stps_get hx⟩, ?_⟩
            (conv => arg 4; whnf); repeat (refine ⟨rfl, ?_⟩; conv => arg 4; whnf)
            by_cases hm : mayG x.e.g x.n = true
            · refine callTab 0 1 2 (cmGenOk (m := runM ops) (f := runF ops) hm) rfl rfl rfl rfl rfl rfl rfl rfl rfl ?_
              (conv => arg 4; whnf); repeat (refine ⟨rfl, ?_⟩; conv => arg 4; whnf)
              refine ⟨fun _ => ?_, fun h' => absurd h' (by decide)⟩
              (conv => arg 4; whnf); repeat (refine ⟨rfl, ?_⟩; conv => arg 4; whnf)
              refine ⟨x.av, ⟨by omega, stps_get hx⟩, ?_⟩
              (conv => arg 4; whnf); repeat (refine ⟨rfl, ?_⟩; conv => arg 4; whnf)
              refine ⟨x.av, ⟨by omega, stps_get hx⟩, ?_⟩
              (conv => arg 4; whnf); repeat (refine ⟨rfl, ?_⟩; conv => arg 4; whnf)
              refine call0 (cmGenRecordOk (g := x.e.g) (n := x.n) (now := (i : Int)) hm (now18 (by omega))) (ClL.cons (Cl.str _) (ClL.cons (Cl.int _ _) (ClL.cons (Cl.int _ _) ClL.nil))) (Cl.tup (ClL.cons (Cl.rec _) (ClL.cons (Cl.int _ _) ClL.nil))) ?_
              (conv => arg 4; whnf); repeat (refine ⟨rfl, ?_⟩; conv => arg 4; whnf)
              refine ⟨fun h' => absurd h' (by decide), fun _ => ?_⟩
              (conv => arg 4; whnf); repeat (refine ⟨rfl, ?_⟩; conv => arg 4; whnf)
              refine callTab 3 4 5 (applyOp (m := runM ops) (f := runF ops) (p := .g x.e.g x.n i) ⟨hm, hn0⟩) rfl rfl rfl rfl rfl rfl rfl (argsU (Cl.rec _)) rfl ?_
              (conv => arg 4; whnf); repeat (refine ⟨rfl, ?_⟩; conv => arg 4; whnf)
              refine ⟨fun h' => absurd h' (by decide), fun _ => ?_⟩
              (conv => arg 4; whnf); repeat (refine ⟨rfl, ?_⟩; conv => arg 4; whnf)
              refine ⟨⟨rfl, sizeOk 80 rfl ?_⟩, ?_⟩
              · rw [List.length_append, recs_length, List.length_map]; simp only [List.length_cons, List.length_nil]; omega
              (conv => arg 4; whnf); repeat (refine ⟨rfl, ?_⟩; conv => arg 4; whnf)
              exact ⟨⟨i + 1, ops ++ [.g x.e.g x.n i], s + 1, by omega, by rw [List.length_append, List.length_singleton]; omega, fun q hq => by
          rcases List.mem_append.1 hq with hq | hq
          · exact hok q hq
          · rw [List.mem_singleton.1 hq]; exact ⟨hm, hn0⟩, asc_snoc hasc (by show (findM (runF ops) x.e.g).getD 0 ≤ x.n; omega)⟩, by show l.length - (i + 1) < l.length - i; omega, WkG.of rfl rfl ⟨Le.of_eq (succ18 (by omega)), Le.of_eq (congrArg (AV.sl (.tok 9 (s + 1)) 6) (ops_snoc ops (.g x.e.g x.n i))), Le.refl _ _, Le.refl _ _, Le.refl _ _, Le.refl _ _, trivial⟩ ⟨⟨_, rfl, LeO.refl _ _⟩, ⟨_, rfl, LeO.refl _ _⟩, ⟨_, rfl, LeO.refl _ _⟩, ⟨_, rfl, LeO.refl _ _⟩, ⟨_, rfl, LeO.refl _ _⟩, ⟨_, rfl, show fE _ = fE _ by rw [runF_snoc] <;> rfl⟩, ⟨_, rfl, show mE _ = mE _ by rw [runM_snoc] <;> rfl⟩, ⟨_, rfl, LeO.refl _ _⟩, ⟨_, rfl, show fE _ = fE _ by rw [runF_snoc] <;> rfl⟩, ⟨_, rfl, show mE _ = mE _ by rw [runM_snoc] <;> rfl⟩, trivial⟩ ⟨rfl, cut_ops _ _ _, rfl, rfl, rfl, Cl.stpsV _ _, trivial⟩ ⟨⟨by decide, rfl⟩, ⟨by decide, rfl⟩, ⟨by decide, ClO.fE _ _⟩, ⟨by decide, ClO.mE _ _⟩, ⟨by decide, rfl⟩, ⟨by decide, ClO.fE _ _⟩, ⟨by decide, ClO.mE _ _⟩, ⟨by decide, rfl⟩, ⟨by decide, ClO.fE _ _⟩, ⟨by decide, ClO.mE _ _⟩, trivial⟩⟩
            · have hm : mayG x.e.g x.n = false := by simpa using hm
              refine callTab 0 1 2 (cmGenNo (m := runM ops) (f := runF ops) hm (by have := hxl.1; omega)) rfl rfl rfl rfl rfl rfl rfl rfl rfl ?_
              (conv => arg 4; whnf); repeat (refine ⟨rfl, ?_⟩; conv => arg 4; whnf)
              refine ⟨fun h' => absurd h' (by decide), fun _ => ?_⟩
              (conv => arg 4; whnf); repeat (refine ⟨rfl, ?_⟩; conv => arg 4; whnf)
              exact ⟨⟨i + 1, ops, s, by omega, by omega, hok, hasc⟩, by show l.length - (i + 1) < l.length - i; omega, WkG.of rfl rfl ⟨Le.of_eq (succ18 (by omega)), Le.refl _ _, Le.refl _ _, Le.refl _ _, Le.refl _ _, Le.refl _ _, trivial⟩ ⟨⟨_, rfl, LeO.refl _ _⟩, ⟨_, rfl, LeO.refl _ _⟩, ⟨_, rfl, LeO.refl _ _⟩, ⟨_, rfl, LeO.refl _ _⟩, ⟨_, rfl, LeO.refl _ _⟩, ⟨_, rfl, LeO.refl _ _⟩, ⟨_, rfl, LeO.refl _ _⟩, ⟨_, rfl, LeO.refl _ _⟩, ⟨_, rfl, LeO.refl _ _⟩, ⟨_, rfl, LeO.refl _ _⟩, trivial⟩ ⟨rfl, cut_ops _ _ _, rfl, rfl, rfl, Cl.stpsV _ _, trivial⟩ ⟨⟨by decide, rfl⟩, ⟨by decide, rfl⟩, ⟨by decide, ClO.fE _ _⟩, ⟨by decide, ClO.mE _ _⟩, ⟨by decide, rfl⟩, ⟨by decide, ClO.fE _ _⟩, ⟨by decide, ClO.mE _ _⟩, ⟨by decide, rfl⟩, ⟨by decide, ClO.fE _ _⟩, ⟨by decide, ClO.mE _ _⟩, trivial⟩⟩
          · (conv => arg 4; whnf); repeat (refine ⟨rfl, ?_⟩; conv => arg 4; whnf)
            exact ⟨⟨i + 1, ops, s, by omega, by omega, hok, hasc⟩, by show l.length - (i + 1) < l.length - i; omega, WkG.of rfl rfl ⟨Le.of_eq (succ18 (by omega)), Le.refl _ _, Le.refl _ _, Le.refl _ _, Le.refl _ _, Le.refl _ _, trivial⟩ ⟨⟨_, rfl, LeO.refl _ _⟩, ⟨_, rfl, LeO.refl _ _⟩, ⟨_, rfl, LeO.refl _ _⟩, ⟨_, rfl, LeO.refl _ _⟩, ⟨_, rfl, LeO.refl _ _⟩, ⟨_, rfl, LeO.refl _ _⟩, ⟨_, rfl, LeO.refl _ _⟩, ⟨_, rfl, LeO.refl _ _⟩, ⟨_, rfl, LeO.refl _ _⟩, ⟨_, rfl, LeO.refl _ _⟩, trivial⟩ ⟨rfl, cut_ops _ _ _, rfl, rfl, rfl, Cl.stpsV _ _, trivial⟩ ⟨⟨by decide, rfl⟩, ⟨by decide, rfl⟩, ⟨by decide, ClO.fE _ _⟩, ⟨by decide, ClO.mE _ _⟩, ⟨by decide, rfl⟩, ⟨by decide, ClO.fE _ _⟩, ⟨by decide, ClO.mE _ _⟩, ⟨by decide, rfl⟩, ⟨by decide, ClO.fE _ _⟩, ⟨by decide, ClO.mE _ _⟩, trivial⟩⟩
        · (conv => arg 4; whnf); repeat (refine ⟨rfl, ?_⟩; conv => arg 4; whnf)
          exact ⟨⟨i + 1, ops, s, by omega, by omega, hok, hasc⟩, by show l.length - (i + 1) < l.length - i; omega, WkG.of rfl rfl ⟨Le.of_eq (succ18 (by omega)), Le.refl _ _, Le.refl _ _, Le.refl _ _, Le.refl _ _, Le.refl _ _, trivial⟩ ⟨⟨_, rfl, LeO.refl _ _⟩, ⟨_, rfl, LeO.refl _ _⟩, ⟨_, rfl, LeO.refl _ _⟩, ⟨_, rfl, LeO.refl _ _⟩, ⟨_, rfl, LeO.refl _ _⟩, ⟨_, rfl, LeO.refl _ _⟩, ⟨_, rfl, LeO.refl _ _⟩, ⟨_, rfl, LeO.refl _ _⟩, ⟨_, rfl, LeO.refl _ _⟩, ⟨_, rfl, LeO.refl _ _⟩, trivial⟩ ⟨rfl, cut_ops _ _ _, rfl, rfl, rfl, Cl.stpsV _ _, trivial⟩ ⟨⟨by decide, rfl⟩, ⟨by decide, rfl⟩, ⟨by decide, ClO.fE _ _⟩, ⟨by decide, ClO.mE _ _⟩, ⟨by decide, rfl⟩, ⟨by decide, ClO.fE _ _⟩, ⟨by decide, ClO.mE _ _⟩, ⟨by decide, rfl⟩, ⟨by decide, ClO.fE _ _⟩, ⟨by decide, ClO.mE _ _⟩, trivial⟩⟩
    · have hlt : i = l.length := by rw [stps_length] at hlt; simp at hlt; omega
      (conv => arg 4; whnf); repeat (refine ⟨rfl, ?_⟩; conv => arg 4; whnf)
      refine fin_exit ?_
      show holds _ _ _ _
      conv => arg 4; whnf
      refine tri_loopG (ι := VkI ops) (fun x => ⟨[(12, .int .i64 x.i), (6, .sl (.tok 9 s) 6 (opsL ops)), (5, .ptr 8 0), (4, .ptr 5 0), (3, .ptr 2 0)], (9, .tip s) :: H3 (runM ops) (runM ops) (runM (lastsN ops x.i)) (runF ops) (runF ops) (runF (lastsN ops x.i)), 10, 229⟩) (fun x => ops.length - x.i) ⟨0, Nat.zero_le _⟩ ?_ ?_
      · refine WkG.of rfl rfl ⟨Le.refl _ _, Le.refl _ _, Le.refl _ _, Le.refl _ _, Le.refl _ _, trivial⟩ ⟨⟨_, rfl, LeO.refl _ _⟩, ⟨_, rfl, LeO.refl _ _⟩, ⟨_, rfl, ?_⟩, ⟨_, rfl, ?_⟩, ⟨_, rfl, LeO.refl _ _⟩, ⟨_, rfl, LeO.refl _ _⟩, ⟨_, rfl, LeO.refl _ _⟩, ⟨_, rfl, LeO.refl _ _⟩, ⟨_, rfl, LeO.refl _ _⟩, ⟨_, rfl, LeO.refl _ _⟩, trivial⟩ ⟨rfl, cut_ops _ _ _, rfl, rfl, rfl, trivial⟩ ⟨⟨by decide, rfl⟩, ⟨by decide, rfl⟩, ⟨by decide, ClO.fE _ _⟩, ⟨by decide, ClO.mE _ _⟩, ⟨by decide, rfl⟩, ⟨by decide, ClO.fE _ _⟩, ⟨by decide, ClO.mE _ _⟩, ⟨by decide, rfl⟩, ⟨by decide, ClO.fE _ _⟩, ⟨by decide, ClO.mE _ _⟩, trivial⟩
        · rw [lastsN_zero]; exact LeO.refl _ _
        · rw [lastsN_zero]; exact LeO.refl _ _
      have hol : ops.length ≤ 80 := by omega
      clear hlt hi hlen
      rintro ⟨i, hi⟩
      dsimp only
      conv => arg 4; whnf
      refine ⟨fun hlt => ?_, fun hlt => ?_⟩
      · have hlt : i < ops.length := by rw [recs_length, List.length_map] at hlt; simp at hlt; omega
        obtain ⟨p, hp⟩ : ∃ p, ops[i]? = some p := ⟨_, List.getElem?_eq_getElem hlt⟩
        (conv => arg 4; whnf); repeat (refine ⟨rfl, ?_⟩; conv => arg 4; whnf)
        have hk0 : IntKind.i64.wrap ((i : Int) + 1) = ((i + 1 : Nat) : Int) := by rw [IntKind.wrap_i64]; omega
        refine tri_loopG (ι := KeI ops i) (fun x => ⟨[(14, .int .i64 x.k), (13, .bool (keyAll ops i p x.k)), (12, .int .i64 i), (6, .sl (.tok 9 s) 6 (opsL ops)), (5, .ptr 8 0), (4, .ptr 5 0), (3, .ptr 2 0)], (9, .tip s) :: H3 (runM ops) (runM ops) (runM (lastsN ops i)) (runF ops) (runF ops) (runF (lastsN ops i)), 10, 229⟩) (fun x => ops.length - x.k) ⟨i + 1, Nat.le_refl _, hlt⟩ (WkG.of rfl rfl ⟨Le.of_eq (congrArg (AV.int .i64) hk0), Le.blOf (keyAll_start ops i p).symm, Le.refl _ _, Le.refl _ _, Le.refl _ _, Le.refl _ _, Le.refl _ _, trivial⟩ ⟨⟨_, rfl, LeO.refl _ _⟩, ⟨_, rfl, LeO.refl _ _⟩, ⟨_, rfl, LeO.refl _ _⟩, ⟨_, rfl, LeO.refl _ _⟩, ⟨_, rfl, LeO.refl _ _⟩, ⟨_, rfl, LeO.refl _ _⟩, ⟨_, rfl, LeO.refl _ _⟩, ⟨_, rfl, LeO.refl _ _⟩, ⟨_, rfl, LeO.refl _ _⟩, ⟨_, rfl, LeO.refl _ _⟩, trivial⟩ ⟨rfl, rfl, rfl, cut_ops _ _ _, rfl, rfl, rfl, trivial⟩ ⟨⟨by decide, rfl⟩, ⟨by decide, rfl⟩, ⟨by decide, ClO.fE _ _⟩, ⟨by decide, ClO.mE _ _⟩, ⟨by decide, rfl⟩, ⟨by decide, ClO.fE _ _⟩, ⟨by decide, ClO.mE _ _⟩, ⟨by decide, rfl⟩, ⟨by decide, ClO.fE _ _⟩, ⟨by decide, ClO.mE _ _⟩, trivial⟩) ?_
        rintro ⟨k, hk1, hk2⟩
        dsimp only
        conv => arg 4; whnf
        refine ⟨fun hklt => ?_, fun hklt => ?_⟩
        · have hklt : k < ops.length := by rw [recs_length, List.length_map] at hklt; simp at hklt; omega
          obtain ⟨q, hq⟩ : ∃ q, ops[k]? = some q := ⟨_, List.getElem?_eq_getElem hklt⟩
          (conv => arg 4; whnf); repeat (refine ⟨rfl, ?_⟩; conv => arg 4; whnf)
          refine ⟨fun hb => ?_, fun hb => ?_⟩
          · (conv => arg 4; whnf); repeat (refine ⟨rfl, ?_⟩; conv => arg 4; whnf)
            refine ⟨q.rec'.av, ⟨by omega, ops_get hq⟩, ?_⟩
            (conv => arg 4; whnf); repeat (refine ⟨rfl, ?_⟩; conv => arg 4; whnf)
            refine ⟨q.rec'.key, rfl, ?_⟩
            (conv => arg 4; whnf); repeat (refine ⟨rfl, ?_⟩; conv => arg 4; whnf)
            refine ⟨p.rec'.av, ⟨by omega, ops_get hp⟩, ?_⟩
            (conv => arg 4; whnf); repeat (refine ⟨rfl, ?_⟩; conv => arg 4; whnf)
            refine ⟨p.rec'.key, rfl, ?_⟩
            (conv => arg 4; whnf); repeat (refine ⟨rfl, ?_⟩; conv => arg 4; whnf)
            exact ⟨⟨k + 1, by omega, by omega⟩, by show ops.length - (k + 1) < ops.length - k; omega, WkG.of rfl rfl ⟨Le.of_eq (succ18 (by omega)), Le.of_eq (congrArg AV.bool (key_cmp hk1 hq hb)), Le.refl _ _, Le.refl _ _, Le.refl _ _, Le.refl _ _, Le.refl _ _, trivial⟩ ⟨⟨_, rfl, LeO.refl _ _⟩, ⟨_, rfl, LeO.refl _ _⟩, ⟨_, rfl, LeO.refl _ _⟩, ⟨_, rfl, LeO.refl _ _⟩, ⟨_, rfl, LeO.refl _ _⟩, ⟨_, rfl, LeO.refl _ _⟩, ⟨_, rfl, LeO.refl _ _⟩, ⟨_, rfl, LeO.refl _ _⟩, ⟨_, rfl, LeO.refl _ _⟩, ⟨_, rfl, LeO.refl _ _⟩, trivial⟩ ⟨rfl, rfl, rfl, cut_ops _ _ _, rfl, rfl, rfl, trivial⟩ ⟨⟨by decide, rfl⟩, ⟨by decide, rfl⟩, ⟨by decide, ClO.fE _ _⟩, ⟨by decide, ClO.mE _ _⟩, ⟨by decide, rfl⟩, ⟨by decide, ClO.fE _ _⟩, ⟨by decide, ClO.mE _ _⟩, ⟨by decide, rfl⟩, ⟨by decide, ClO.fE _ _⟩, ⟨by decide, ClO.mE _ _⟩, trivial⟩⟩
          · (conv => arg 4; whnf); repeat (refine ⟨rfl, ?_⟩; conv => arg 4; whnf)
            exact ⟨⟨k + 1, by omega, by omega⟩, by show ops.length - (k + 1) < ops.length - k; omega, WkG.of rfl rfl ⟨Le.of_eq (succ18 (by omega)), Le.blOf (by rw [keyAll_step hk1 hq, hb]; rfl), Le.refl _ _, Le.refl _ _, Le.refl _ _, Le.refl _ _, Le.refl _ _, trivial⟩ ⟨⟨_, rfl, LeO.refl _ _⟩, ⟨_, rfl, LeO.refl _ _⟩, ⟨_, rfl, LeO.refl _ _⟩, ⟨_, rfl, LeO.refl _ _⟩, ⟨_, rfl, LeO.refl _ _⟩, ⟨_, rfl, LeO.refl _ _⟩, ⟨_, rfl, LeO.refl _ _⟩, ⟨_, rfl, LeO.refl _ _⟩, ⟨_, rfl, LeO.refl _ _⟩, ⟨_, rfl, LeO.refl _ _⟩, trivial⟩ ⟨rfl, rfl, rfl, cut_ops _ _ _, rfl, rfl, rfl, trivial⟩ ⟨⟨by decide, rfl⟩, ⟨by decide, rfl⟩, ⟨by decide, ClO.fE _ _⟩, ⟨by decide, ClO.mE _ _⟩, ⟨by decide, rfl⟩, ⟨by decide, ClO.fE _ _⟩, ⟨by decide, ClO.mE _ _⟩, ⟨by decide, rfl⟩, ⟨by decide, ClO.fE _ _⟩, ⟨by decide, ClO.mE _ _⟩, trivial⟩⟩
        · have hklt : k = ops.length := by rw [recs_length, List.length_map] at hklt; simp at hklt; omega
          (conv => arg 4; whnf); repeat (refine ⟨rfl, ?_⟩; conv => arg 4; whnf)
          refine fin_exit ?_
          show holds _ _ _ _
          conv => arg 4; whnf
          refine ⟨p.rec'.av, ctxP_of ⟨by omega, ops_get hp⟩, ?_⟩
          conv => arg 4; whnf
          subst hklt
          refine ⟨fun hb => ?_, fun hb => ?_⟩
          · have hb : (ops.drop (i + 1)).all (fun q => decide (q.key ≠ p.key)) = true := by rw [← keyAll_end]; exact hb
            (conv => arg 4; whnf); repeat (refine ⟨rfl, ?_⟩; conv => arg 4; whnf)
            refine callTab 6 7 8 (applyOp (m := runM (lastsN ops i)) (f := runF (lastsN ops i)) (p := p) (hok p (List.mem_of_getElem? hp))) rfl rfl rfl rfl rfl rfl rfl (argsU (Cl.rec _)) rfl ?_
            (conv => arg 4; whnf); repeat (refine ⟨rfl, ?_⟩; conv => arg 4; whnf)
            refine ⟨fun h' => absurd h' (by decide), fun _ => ?_⟩
            (conv => arg 4; whnf); repeat (refine ⟨rfl, ?_⟩; conv => arg 4; whnf)
            exact ⟨⟨i + 1, hlt⟩, by show ops.length - (i + 1) < ops.length - i; omega, WkG.of rfl rfl ⟨Le.of_eq (succ18 (by omega)), Le.refl _ _, Le.refl _ _, Le.refl _ _, Le.refl _ _, trivial⟩ ⟨⟨_, rfl, LeO.refl _ _⟩, ⟨_, rfl, LeO.refl _ _⟩, ⟨_, rfl, show fE _ = fE _ by rw [lastsN_step hp, if_pos hb, runF_snoc]⟩, ⟨_, rfl, show mE _ = mE _ by rw [lastsN_step hp, if_pos hb, runM_snoc]⟩, ⟨_, rfl, LeO.refl _ _⟩, ⟨_, rfl, LeO.refl _ _⟩, ⟨_, rfl, LeO.refl _ _⟩, ⟨_, rfl, LeO.refl _ _⟩, ⟨_, rfl, LeO.refl _ _⟩, ⟨_, rfl, LeO.refl _ _⟩, trivial⟩ ⟨rfl, cut_ops _ _ _, rfl, rfl, rfl, trivial⟩ ⟨⟨by decide, rfl⟩, ⟨by decide, rfl⟩, ⟨by decide, ClO.fE _ _⟩, ⟨by decide, ClO.mE _ _⟩, ⟨by decide, rfl⟩, ⟨by decide, ClO.fE _ _⟩, ⟨by decide, ClO.mE _ _⟩, ⟨by decide, rfl⟩, ⟨by decide, ClO.fE _ _⟩, ⟨by decide, ClO.mE _ _⟩, trivial⟩⟩
          · have hb : ¬ (ops.drop (i + 1)).all (fun q => decide (q.key ≠ p.key)) = true := by rw [← keyAll_end, hb]; decide
            (conv => arg 4; whnf); repeat (refine ⟨rfl, ?_⟩; conv => arg 4; whnf)
            exact ⟨⟨i + 1, hlt⟩, by show ops.length - (i + 1) < ops.length - i; omega, WkG.of rfl rfl ⟨Le.of_eq (succ18 (by omega)), Le.refl _ _, Le.refl _ _, Le.refl _ _, Le.refl _ _, trivial⟩ ⟨⟨_, rfl, LeO.refl _ _⟩, ⟨_, rfl, LeO.refl _ _⟩, ⟨_, rfl, show fE _ = fE _ by rw [lastsN_step hp, if_neg hb, List.append_nil]⟩, ⟨_, rfl, show mE _ = mE _ by rw [lastsN_step hp, if_neg hb, List.append_nil]⟩, ⟨_, rfl, LeO.refl _ _⟩, ⟨_, rfl, LeO.refl _ _⟩, ⟨_, rfl, LeO.refl _ _⟩, ⟨_, rfl, LeO.refl _ _⟩, ⟨_, rfl, LeO.refl _ _⟩, ⟨_, rfl, LeO.refl _ _⟩, trivial⟩ ⟨rfl, cut_ops _ _ _, rfl, rfl, rfl, trivial⟩ ⟨⟨by decide, rfl⟩, ⟨by decide, rfl⟩, ⟨by decide, ClO.fE _ _⟩, ⟨by decide, ClO.mE _ _⟩, ⟨by decide, rfl⟩, ⟨by decide, ClO.fE _ _⟩, ⟨by decide, ClO.mE _ _⟩, ⟨by decide, rfl⟩, ⟨by decide, ClO.fE _ _⟩, ⟨by decide, ClO.mE _ _⟩, trivial⟩⟩
      · have hlt : i = ops.length := by rw [recs_length, List.length_map] at hlt; simp at hlt; omega
        subst hlt
        rw [lastsN_all]
        (conv => arg 4; whnf); repeat (refine ⟨rfl, ?_⟩; conv => arg 4; whnf)
        refine fin_exit ?_
        show holds _ _ _ _
        conv => arg 4; whnf
        refine call0 nilGet (by (repeat' (first | with_reducible assumption | exact ClL.nil | exact Cl.int _ _ | exact Cl.bool _ | exact Cl.bl _ | exact Cl.bs _ | exact Cl.str _ | exact Cl.nils | exact Cl.nilp | exact Cl.rec _ | exact Cl.bat _ | exact Cl.recsV _ | exact Cl.strsV _ | exact Cl.intsV _ | exact Cl.req _ | exact Cl.rsp _ | exact Cl.reqA _ | exact Cl.rspA _ | exact Cl.batsV _ | exact Cl.prsV _ | exact Cl.atsV _ | exact Cl.entA _ _ | exact Cl.ent _ | exact Cl.rr _ _ | exact Cl.foundA _ | exact Cl.getB _ | exact Cl.encA _ | exact Cl.firstA _ | refine ClL.cons ?_ ?_ | refine Cl.tup ?_ | refine Cl.agg ?_ | exact ClO.RO _ _))) (by (repeat' (first | with_reducible assumption | exact ClL.nil | exact Cl.int _ _ | exact Cl.bool _ | exact Cl.bl _ | exact Cl.bs _ | exact Cl.str _ | exact Cl.nils | exact Cl.nilp | exact Cl.rec _ | exact Cl.bat _ | exact Cl.recsV _ | exact Cl.strsV _ | exact Cl.intsV _ | exact Cl.req _ | exact Cl.rsp _ | exact Cl.reqA _ | exact Cl.rspA _ | exact Cl.batsV _ | exact Cl.prsV _ | exact Cl.atsV _ | exact Cl.entA _ _ | exact Cl.ent _ | exact Cl.rr _ _ | exact Cl.foundA _ | exact Cl.getB _ | exact Cl.encA _ | exact Cl.firstA _ | refine ClL.cons ?_ ?_ | refine Cl.tup ?_ | refine Cl.agg ?_ | exact ClO.RO _ _))) ?_
        (conv => arg 4; whnf); repeat (refine ⟨rfl, ?_⟩; conv => arg 4; whnf)
        refine callG [0, 1, 2, 3, 4, 5] (cmSame (m := runM ops) (m' := runM ops) (f := runF ops) (f' := runF ops) (once_runF _) (once_runF _)) rfl ⟨⟨by decide, rfl⟩, ⟨by decide, by rw [ClO.fE]; rfl⟩, ⟨by decide, by rw [ClO.mE]; rfl⟩, ⟨by decide, rfl⟩, ⟨by decide, by rw [ClO.fE]; rfl⟩, ⟨by decide, by rw [ClO.mE]; rfl⟩, trivial⟩ rfl (Cl.bool _ _) mrgTU ?_
        (conv => arg 4; whnf); repeat (refine ⟨rfl, ?_⟩; conv => arg 4; whnf)
        have b1 : (eqMp (runM ops) (runM ops) && eqMp (nzM (runF ops)) (nzM (runF ops))) = true := by
          have q : eqMp (nzM (runF ops)) (nzM (runF ops)) = true := same_m (once_filter _ (once_runF _))
          rw [same_m (once_runM _), q]; rfl
        refine ⟨fun _ => ?_, fun h' => absurd h' (by rw [b1]; decide)⟩
        (conv => arg 4; whnf); repeat (refine ⟨rfl, ?_⟩; conv => arg 4; whnf)
        refine callG [0, 1, 2, 6, 7, 8] (cmSame (m := runM ops) (m' := runM (lasts ops)) (f := runF ops) (f' := runF (lasts ops)) (once_runF _) (once_runF _)) rfl ⟨⟨by decide, rfl⟩, ⟨by decide, by rw [ClO.fE]; rfl⟩, ⟨by decide, by rw [ClO.mE]; rfl⟩, ⟨by decide, rfl⟩, ⟨by decide, by rw [ClO.fE]; rfl⟩, ⟨by decide, by rw [ClO.mE]; rfl⟩, trivial⟩ rfl (Cl.bool _ _) mrgTV ?_
        (conv => arg 4; whnf); repeat (refine ⟨rfl, ?_⟩; conv => arg 4; whnf)
        have b2 : (eqMp (runM ops) (runM (lasts ops)) && eqMp (nzM (runF ops)) (nzM (runF (lasts ops)))) = true := by rw [back_m hok, back_f hok hasc]; rfl
        refine ⟨fun _ => ?_, fun h' => absurd h' (by rw [b2]; decide)⟩
        (conv => arg 4; whnf); repeat (refine ⟨rfl, ?_⟩; conv => arg 4; whnf)
        refine call0 (nilPut (e := ⟨[103], [116], 0, 0⟩)) (ClL.cons Cl.nilp (ClL.cons (Cl.ent ⟨[103], [116], 0, 0⟩) ClL.nil)) (by (repeat' (first | with_reducible assumption | exact ClL.nil | exact Cl.int _ _ | exact Cl.bool _ | exact Cl.bl _ | exact Cl.bs _ | exact Cl.str _ | exact Cl.nils | exact Cl.nilp | exact Cl.rec _ | exact Cl.bat _ | exact Cl.recsV _ | exact Cl.strsV _ | exact Cl.intsV _ | exact Cl.req _ | exact Cl.rsp _ | exact Cl.reqA _ | exact Cl.rspA _ | exact Cl.batsV _ | exact Cl.prsV _ | exact Cl.atsV _ | exact Cl.entA _ _ | exact Cl.ent _ | exact Cl.rr _ _ | exact Cl.foundA _ | exact Cl.getB _ | exact Cl.encA _ | exact Cl.firstA _ | refine ClL.cons ?_ ?_ | refine Cl.tup ?_ | refine Cl.agg ?_ | exact ClO.RO _ _))) ?_
        (conv => arg 4; whnf); repeat (refine ⟨rfl, ?_⟩; conv => arg 4; whnf)
        refine ⟨fun _ => ?_, fun h' => absurd h' (by decide)⟩
        (conv => arg 4; whnf); repeat (refine ⟨rfl, ?_⟩; conv => arg 4; whnf)
        refine call0 (nilGen (g := [103]) (n := 1)) (by (repeat' (first | with_reducible assumption | exact ClL.nil | exact Cl.int _ _ | exact Cl.bool _ | exact Cl.bl _ | exact Cl.bs _ | exact Cl.str _ | exact Cl.nils | exact Cl.nilp | exact Cl.rec _ | exact Cl.bat _ | exact Cl.recsV _ | exact Cl.strsV _ | exact Cl.intsV _ | exact Cl.req _ | exact Cl.rsp _ | exact Cl.reqA _ | exact Cl.rspA _ | exact Cl.batsV _ | exact Cl.prsV _ | exact Cl.atsV _ | exact Cl.entA _ _ | exact Cl.ent _ | exact Cl.rr _ _ | exact Cl.foundA _ | exact Cl.getB _ | exact Cl.encA _ | exact Cl.firstA _ | refine ClL.cons ?_ ?_ | refine Cl.tup ?_ | refine Cl.agg ?_ | exact ClO.RO _ _))) (by (repeat' (first | with_reducible assumption | exact ClL.nil | exact Cl.int _ _ | exact Cl.bool _ | exact Cl.bl _ | exact Cl.bs _ | exact Cl.str _ | exact Cl.nils | exact Cl.nilp | exact Cl.rec _ | exact Cl.bat _ | exact Cl.recsV _ | exact Cl.strsV _ | exact Cl.intsV _ | exact Cl.req _ | exact Cl.rsp _ | exact Cl.reqA _ | exact Cl.rspA _ | exact Cl.batsV _ | exact Cl.prsV _ | exact Cl.atsV _ | exact Cl.entA _ _ | exact Cl.ent _ | exact Cl.rr _ _ | exact Cl.foundA _ | exact Cl.getB _ | exact Cl.encA _ | exact Cl.firstA _ | refine ClL.cons ?_ ?_ | refine Cl.tup ?_ | refine Cl.agg ?_ | exact ClO.RO _ _))) ?_
        (conv => arg 4; whnf); repeat (refine ⟨rfl, ?_⟩; conv => arg 4; whnf)
        refine ⟨fun _ => ?_, fun h' => absurd h' (by decide)⟩
        (conv => arg 4; whnf); repeat (refine ⟨rfl, ?_⟩; conv => arg 4; whnf)
        refine holds_args (args' := [.nilp, Rec0.av]) ⟨Le.refl _ _, Le.agg (LeL.cons (Le.refl _ _) (LeL.cons (Le.refl _ _) (LeL.cons Le.bl (LeL.cons Le.nils (LeL.cons Le.bl (LeL.cons Le.nils (LeL.nil _))))))), trivial⟩ ?_
        refine call0 (nilApply (r := Rec0)) (ClL.cons Cl.nilp (ClL.cons (Cl.rec Rec0) ClL.nil)) (by (repeat' (first | with_reducible assumption | exact ClL.nil | exact Cl.int _ _ | exact Cl.bool _ | exact Cl.bl _ | exact Cl.bs _ | exact Cl.str _ | exact Cl.nils | exact Cl.nilp | exact Cl.rec _ | exact Cl.bat _ | exact Cl.recsV _ | exact Cl.strsV _ | exact Cl.intsV _ | exact Cl.req _ | exact Cl.rsp _ | exact Cl.reqA _ | exact Cl.rspA _ | exact Cl.batsV _ | exact Cl.prsV _ | exact Cl.atsV _ | exact Cl.entA _ _ | exact Cl.ent _ | exact Cl.rr _ _ | exact Cl.foundA _ | exact Cl.getB _ | exact Cl.encA _ | exact Cl.firstA _ | refine ClL.cons ?_ ?_ | refine Cl.tup ?_ | refine Cl.agg ?_ | exact ClO.RO _ _))) ?_
        (conv => arg 4; whnf); repeat (refine ⟨rfl, ?_⟩; conv => arg 4; whnf)
        refine ⟨fun _ => ?_, fun h' => absurd h' (by decide)⟩
        (conv => arg 4; whnf); repeat (refine ⟨rfl, ?_⟩; conv => arg 4; whnf)
        refine call0 (nilFloor (g := [103])) (by (repeat' (first | with_reducible assumption | exact ClL.nil | exact Cl.int _ _ | exact Cl.bool _ | exact Cl.bl _ | exact Cl.bs _ | exact Cl.str _ | exact Cl.nils | exact Cl.nilp | exact Cl.rec _ | exact Cl.bat _ | exact Cl.recsV _ | exact Cl.strsV _ | exact Cl.intsV _ | exact Cl.req _ | exact Cl.rsp _ | exact Cl.reqA _ | exact Cl.rspA _ | exact Cl.batsV _ | exact Cl.prsV _ | exact Cl.atsV _ | exact Cl.entA _ _ | exact Cl.ent _ | exact Cl.rr _ _ | exact Cl.foundA _ | exact Cl.getB _ | exact Cl.encA _ | exact Cl.firstA _ | refine ClL.cons ?_ ?_ | refine Cl.tup ?_ | refine Cl.agg ?_ | exact ClO.RO _ _))) (by (repeat' (first | with_reducible assumption | exact ClL.nil | exact Cl.int _ _ | exact Cl.bool _ | exact Cl.bl _ | exact Cl.bs _ | exact Cl.str _ | exact Cl.nils | exact Cl.nilp | exact Cl.rec _ | exact Cl.bat _ | exact Cl.recsV _ | exact Cl.strsV _ | exact Cl.intsV _ | exact Cl.req _ | exact Cl.rsp _ | exact Cl.reqA _ | exact Cl.rspA _ | exact Cl.batsV _ | exact Cl.prsV _ | exact Cl.atsV _ | exact Cl.entA _ _ | exact Cl.ent _ | exact Cl.rr _ _ | exact Cl.foundA _ | exact Cl.getB _ | exact Cl.encA _ | exact Cl.firstA _ | refine ClL.cons ?_ ?_ | refine Cl.tup ?_ | refine Cl.agg ?_ | exact ClO.RO _ _))) ?_
        (conv => arg 4; whnf); repeat (refine ⟨rfl, ?_⟩; conv => arg 4; whnf)
        refine ⟨fun _ => ?_, fun h' => absurd h' (by decide)⟩
        (conv => arg 4; whnf); repeat (refine ⟨rfl, ?_⟩; conv => arg 4; whnf)
        refine call0 awake18 (by (repeat' (first | with_reducible assumption | exact ClL.nil | exact Cl.int _ _ | exact Cl.bool _ | exact Cl.bl _ | exact Cl.bs _ | exact Cl.str _ | exact Cl.nils | exact Cl.nilp | exact Cl.rec _ | exact Cl.bat _ | exact Cl.recsV _ | exact Cl.strsV _ | exact Cl.intsV _ | exact Cl.req _ | exact Cl.rsp _ | exact Cl.reqA _ | exact Cl.rspA _ | exact Cl.batsV _ | exact Cl.prsV _ | exact Cl.atsV _ | exact Cl.entA _ _ | exact Cl.ent _ | exact Cl.rr _ _ | exact Cl.foundA _ | exact Cl.getB _ | exact Cl.encA _ | exact Cl.firstA _ | refine ClL.cons ?_ ?_ | refine Cl.tup ?_ | refine Cl.agg ?_ | exact ClO.RO _ _))) (by (repeat' (first | with_reducible assumption | exact ClL.nil | exact Cl.int _ _ | exact Cl.bool _ | exact Cl.bl _ | exact Cl.bs _ | exact Cl.str _ | exact Cl.nils | exact Cl.nilp | exact Cl.rec _ | exact Cl.bat _ | exact Cl.recsV _ | exact Cl.strsV _ | exact Cl.intsV _ | exact Cl.req _ | exact Cl.rsp _ | exact Cl.reqA _ | exact Cl.rspA _ | exact Cl.batsV _ | exact Cl.prsV _ | exact Cl.atsV _ | exact Cl.entA _ _ | exact Cl.ent _ | exact Cl.rr _ _ | exact Cl.foundA _ | exact Cl.getB _ | exact Cl.encA _ | exact Cl.firstA _ | refine ClL.cons ?_ ?_ | refine Cl.tup ?_ | refine Cl.agg ?_ | exact ClO.RO _ _))) ?_
        (conv => arg 4; whnf); repeat (refine ⟨rfl, ?_⟩; conv => arg 4; whnf)
        exact .inl rfl
end Go.Proofs.Ytlifbhcmihnkpaa.Cm

namespace Go.Proofs.Ytlifbhcmihnkpaa.Cm
set_option maxRecDepth 100000
set_option maxHeartbeats 80000000
open Go.Sym

theorem bytes_lt {els : List AV} {n : Nat} (h : els.length * n ≤ reachBytes) (hn : 1 ≤ n) : els.length ≤ 1000000000000000 := by
  have : els.length * 1 ≤ els.length * n := Nat.mul_le_mul_left _ hn
  unfold reachBytes at h
  omega
theorem stp_of {n : Nat} {l : List AV} (g : Sym.Good Try.prog n 85 l) : ∃ s : Stp, s.fine ∧ Le [] (.agg l) s.av := by
  obtain ⟨m, g⟩ := Sym.Good.struct Try.underlying85 (by kernel_rfl) g
  obtain ⟨_, _, rfl, g1, _, _, rfl, g2, _, _, rfl, g3, _, _, rfl, g4, rfl⟩ := g
  obtain ⟨x1, rfl, w1⟩ := Sym.Good.int Try.underlying3 g1
  obtain ⟨m2, g2⟩ := Sym.Good.struct Try.underlying57 (by kernel_rfl) g2
  obtain ⟨_, _, rfl, h1, _, _, rfl, h2, _, _, rfl, h3, _, _, rfl, h4, rfl⟩ := g2
  obtain ⟨e1, rfl, v1⟩ := Sym.Good.str Try.underlying9 h1
  obtain ⟨e2, rfl, v2⟩ := Sym.Good.str Try.underlying9 h2
  obtain ⟨e3, rfl, v3⟩ := Sym.Good.int Try.underlying3 h3
  obtain ⟨e4, rfl, v4⟩ := Sym.Good.int Try.underlying3 h4
  obtain ⟨x3, rfl, w3⟩ := Sym.Good.int Try.underlying3 g3
  obtain ⟨m4, g4⟩ := Sym.Good.struct Try.underlying60 (by kernel_rfl) g4
  obtain ⟨_, _, rfl, k1, _, _, rfl, k2, _, _, rfl, k3, _, _, rfl, k4, _, _, rfl, k5, _, _, rfl, k6, rfl⟩ := g4
  obtain ⟨y1, rfl, u1⟩ := Sym.Good.int Try.underlying3 k1
  obtain ⟨y2, rfl, u2⟩ := Sym.Good.int Try.underlying3 k2
  obtain ⟨y3, rfl⟩ := Sym.Good.bool Try.underlying4 k3
  obtain ⟨s4, rfl, z4, q4⟩ := Sym.Good.slice (k := 0) Try.underlying25 (by kernel_rfl) (by kernel_rfl) k4
  obtain ⟨y5, rfl⟩ := Sym.Good.bool Try.underlying4 k5
  obtain ⟨s6, rfl, z6, q6⟩ := Sym.Good.slice (k := 0) Try.underlying25 (by kernel_rfl) (by kernel_rfl) k6
  have z4 := bytes_lt z4 (of_decide_eq_true (by kernel_rfl))
  have z6 := bytes_lt z6 (of_decide_eq_true (by kernel_rfl))
  obtain ⟨l4, rfl⟩ := bytes_of Try.underlying5 q4
  obtain ⟨l6, rfl⟩ := bytes_of Try.underlying5 q6
  rw [u8s_length] at z4 z6
  refine ⟨⟨x1, ⟨e1, e2, e3, e4⟩, x3, ⟨y1, y2, y3, l4, y5, l6⟩⟩, ⟨str_lt v1, str_lt v2, z4, z6⟩, ?_⟩
  exact Le.agg (LeL.cons (Le.refl _ _) (LeL.cons (Le.refl _ _) (LeL.cons (Le.refl _ _) (LeL.cons (Le.refl _ _) (LeL.cons (Le.refl _ _) (LeL.cons (Le.refl _ _) (LeL.cons (Le.refl _ _) (LeL.cons (Le.refl _ _) (LeL.cons Le.bl (LeL.cons (Le.refl _ _) (LeL.cons Le.bl (LeL.cons (Le.refl _ _) (LeL.nil _)))))))))))))
theorem stps_of {els : List AV} (h : ∀ x ∈ els, ∃ m cs, isElem 12 x cs ∧ Sym.Good Try.prog m 85 cs) : ∃ l : List Stp, l.length = els.length ∧ (∀ s ∈ l, s.fine) ∧ LeL [] els (stpsL l) := by
  induction els with
  | nil => exact ⟨[], rfl, by simp, LeL.refl _ _⟩
  | cons x els ih =>
    obtain ⟨l, hl, hb, hle⟩ := ih fun y hy => h y (List.mem_cons_of_mem _ hy)
    obtain ⟨m, cs, he, g⟩ := h x List.mem_cons_self
    obtain ⟨b, hb0, hle0⟩ := stp_of g
    simp only [isElem] at he
    rw [if_neg (by decide)] at he
    subst he
    refine ⟨b :: l, by simp [hl], fun y hy => ?_, LeL.cons hle0 hle⟩
    rcases List.mem_cons.1 hy with rfl | hy
    · exact hb0
    · exact hb y hy
end Go.Proofs.Ytlifbhcmihnkpaa.Cm
