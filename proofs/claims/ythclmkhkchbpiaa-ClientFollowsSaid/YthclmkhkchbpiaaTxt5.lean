/-
  Records of a client's tests.
-/
import Derived.Test.YthclmkhkchbpiaaTxt4
set_option linter.unusedVariables false
set_option linter.unusedSimpArgs false
namespace Go.Proofs.Ythclmkhkchbpiaa.Ct
set_option maxRecDepth 100000
set_option maxHeartbeats 80000000
open Go.Sym

def bkB (n : Int) (i : Nat) : UInt8 := UInt8.ofNat ((IntKind.u8.wrap n + IntKind.u8.wrap (IntKind.u8.wrap (i : Int) * 7)) % 256).toNat
structure BkI (n : Nat) where
  i : Nat
  hi : i ≤ n

def blk (f : Nat → UInt8) (size i : Nat) : List UInt8 := (List.range i).map f ++ List.replicate (size - i) 0
theorem blk_len {f : Nat → UInt8} {size i : Nat} (h : i ≤ size) : (blk f size i).length = size := by
  simp [blk]; omega
theorem blk_set {f : Nat → UInt8} {size i : Nat} (h : i < size) : (blk f size i).set i (f i) = blk f size (i + 1) := by
  unfold blk
  have e : size - i = (size - (i + 1)) + 1 := by omega
  rw [e, List.replicate_succ, List.set_append_right _ _ (by simp), List.length_map, List.length_range, Nat.sub_self, List.set_cons_zero, List.range_succ, List.map_append, List.append_assoc]
  rfl

theorem ctBlock {size : Nat} {n : Int} (hs : size ≤ 1000) (hn : I64 n) : ∃ l : List UInt8, l.length = size ∧ CallOK Try.prog 109 [.int .i64 size, .int .i64 n] [] 0 (Out (.sl .full 0 (u8s l)) [] 0) := by
  refine ⟨blk (fun i => bkB n i) size size, blk_len (Nat.le_refl _), ?_⟩
  refine CallOK.told (a := .arr 0 0 size) (h1 := [(0, .cells (u8s (blk (fun i => bkB n i) size size)))]) (m := 1) ?_ (by omega) ((Gh.freeze (id := 0) (l := u8s (blk (fun i => bkB n i) size size)) (f' := fun _ => .sl .full 0 (u8s (blk (fun i => bkB n i) size size))) (h' := []) rfl (fun _ => .inr ⟨by rw [u8s_length, blk_len (Nat.le_refl _)], rfl⟩) (fun j o hg => by simp [Sym.get] at hg)).trans (Gh.drop (Nat.le_refl _) (fun _ => cut_ok rfl) (HeapCut.get trivial)))
  refine callOK Try.call109 Try.func109 Try.ntmps109 rfl ?_
  conv => arg 4; whnf
  refine ⟨⟨by omega, rfl, ?_, by omega⟩, ?_⟩
  · show (size : Int) * (1 : Int) ≤ _
    omega
  refine .inr ?_
  conv => arg 4; whnf
  refine tri_loopG (ι := BkI size) (fun x => ⟨[(6, .int .i64 x.i), (5, .arr 0 0 size), (0, .int .i64 size), (1, .int .i64 n)], [(0, .cells (u8s (blk (fun i => bkB n i) size x.i)))], 1, 24⟩) (fun x => size - x.i) ⟨0, Nat.zero_le _⟩ ?_ ?_
  · refine WkG.of rfl rfl ⟨Le.refl _ _, Le.refl _ _, Le.refl _ _, Le.refl _ _, trivial⟩ ⟨⟨_, rfl, ?_⟩, trivial⟩ ⟨rfl, rfl, rfl, rfl, trivial⟩ ⟨⟨by decide, by simp only [renO, renL_u8s]⟩, trivial⟩
    have e : (List.replicate (size : Int).toNat [AV.int .u8 0]).flatten = u8s (blk (fun i => bkB n i) size 0) := by rw [flat_one, u8s_zeros]; simp [blk]
    show LeL _ (List.replicate (size : Int).toNat [AV.int .u8 0]).flatten (u8s (blk (fun i => bkB n i) size 0))
    rw [e]
    exact LeL.refl _ _
  · intro x
    have hb := x.hi
    conv => arg 4; whnf
    refine ⟨fun h => ?_, fun h => ?_⟩
    · have hk : x.i < size := by simp at h; omega
      conv => arg 4; whnf
      refine ⟨by omega, ?_⟩
      conv => arg 4; whnf
      refine ⟨by rw [u8s_length, blk_len hb]; show x.i * 1 < size; omega, ?_⟩
      conv => arg 4; whnf
      refine ⟨⟨x.i + 1, by omega⟩, by show size - (x.i + 1) < size - x.i; omega, WkG.of rfl rfl ⟨Le.of_eq ?_, Le.refl _ _, Le.refl _ _, Le.refl _ _, trivial⟩ ⟨⟨_, rfl, ?_⟩, trivial⟩ ⟨rfl, rfl, rfl, rfl, trivial⟩ ⟨⟨by decide, by simp only [renO, renL_u8s]⟩, trivial⟩⟩
      · conv => lhs; whnf
        congr 1
        rw [IntKind.wrap_i64]
        show _ = ((x.i + 1 : Nat) : Int)
        omega
      · show LeL _ ((u8s (blk (fun i => bkB n i) size x.i)).set (x.i * 1) (AV.int IntKind.u8 (IntKind.u8.wrap (IntKind.u8.wrap n + IntKind.u8.wrap (IntKind.u8.wrap (x.i : Int) * 7))))) (u8s (blk (fun i => bkB n i) size (x.i + 1)))
        rw [← blk_set hk, ← u8s_set, int_u8, Nat.mul_one]
        exact LeL.refl _ _
    · have hk : x.i = size := by simp at h; omega
      conv => arg 4; whnf
      refine ⟨rfl, ?_, rfl⟩
      rw [hk]
theorem le_key {h : Heap} {p : Perm} {x : Int} : Le h (.sl p 0 [.int .u8 (IntKind.u8.wrap x)]) (bs [UInt8.ofNat (x % 256).toNat]) :=
  Le.noneOf (by rw [int_u8]; rfl)

theorem ctRecord {k v t : Int} (hk : I64 k) (hv : I64 v) (ht : I64 t) : CallOK Try.prog 95 [.int .i64 k, .int .i64 v, .int .i64 t] [] 0 (fun a h m => ∃ r : Rec, (r.off = 0 ∧ r.time = t ∧ r.key.length ≤ 1 ∧ r.val.length ≤ 40 ∧ (r.hk = false → r.key = []) ∧ (r.hv = false → r.val = [])) ∧ Out r.av [] 0 a h m) := by
  refine CallOK.fitE (by decide) ?_
  refine callOK Try.call95 Try.func95 Try.ntmps95 rfl ?_
  conv => arg 4; whnf
  obtain ⟨c, hc1, hc2, cc⟩ := round (k := k) (n := 26) hk (by omega)
  obtain ⟨d, hd1, hd2, dd⟩ := round (k := v) (n := 40) hv (by omega)
  refine ⟨fun h1 => ?_, fun h1 => ?_⟩
  · (conv => arg 4; whnf); repeat (refine ⟨rfl, ?_⟩; conv => arg 4; whnf)
    refine call0 cc (by (repeat' (first | with_reducible assumption | exact ClL.nil | exact Cl.int _ _ | exact Cl.bool _ | exact Cl.bl _ | exact Cl.bs _ | exact Cl.str _ | exact Cl.nils | exact Cl.nilp | exact Cl.rec _ | exact Cl.bat _ | exact Cl.recsV _ | exact Cl.strsV _ | exact Cl.intsV _ | exact Cl.req _ | exact Cl.rsp _ | exact Cl.reqA _ | exact Cl.rspA _ | exact Cl.batsV _ | exact Cl.getB _ | exact Cl.encA _ | exact Cl.firstA _ | refine ClL.cons ?_ ?_ | refine Cl.tup ?_ | refine Cl.agg ?_ | exact ClO.RO _ _))) (by (repeat' (first | with_reducible assumption | exact ClL.nil | exact Cl.int _ _ | exact Cl.bool _ | exact Cl.bl _ | exact Cl.bs _ | exact Cl.str _ | exact Cl.nils | exact Cl.nilp | exact Cl.rec _ | exact Cl.bat _ | exact Cl.recsV _ | exact Cl.strsV _ | exact Cl.intsV _ | exact Cl.req _ | exact Cl.rsp _ | exact Cl.reqA _ | exact Cl.rspA _ | exact Cl.batsV _ | exact Cl.getB _ | exact Cl.encA _ | exact Cl.firstA _ | refine ClL.cons ?_ ?_ | refine Cl.tup ?_ | refine Cl.agg ?_ | exact ClO.RO _ _))) ?_
    (conv => arg 4; whnf); repeat (refine ⟨rfl, ?_⟩; conv => arg 4; whnf)
    refine ⟨fun h2 => ?_, fun h2 => ?_⟩
    · (conv => arg 4; whnf); repeat (refine ⟨rfl, ?_⟩; conv => arg 4; whnf)
      refine call0 dd (by (repeat' (first | with_reducible assumption | exact ClL.nil | exact Cl.int _ _ | exact Cl.bool _ | exact Cl.bl _ | exact Cl.bs _ | exact Cl.str _ | exact Cl.nils | exact Cl.nilp | exact Cl.rec _ | exact Cl.bat _ | exact Cl.recsV _ | exact Cl.strsV _ | exact Cl.intsV _ | exact Cl.req _ | exact Cl.rsp _ | exact Cl.reqA _ | exact Cl.rspA _ | exact Cl.batsV _ | exact Cl.getB _ | exact Cl.encA _ | exact Cl.firstA _ | refine ClL.cons ?_ ?_ | refine Cl.tup ?_ | refine Cl.agg ?_ | exact ClO.RO _ _))) (by (repeat' (first | with_reducible assumption | exact ClL.nil | exact Cl.int _ _ | exact Cl.bool _ | exact Cl.bl _ | exact Cl.bs _ | exact Cl.str _ | exact Cl.nils | exact Cl.nilp | exact Cl.rec _ | exact Cl.bat _ | exact Cl.recsV _ | exact Cl.strsV _ | exact Cl.intsV _ | exact Cl.req _ | exact Cl.rsp _ | exact Cl.reqA _ | exact Cl.rspA _ | exact Cl.batsV _ | exact Cl.getB _ | exact Cl.encA _ | exact Cl.firstA _ | refine ClL.cons ?_ ?_ | refine Cl.tup ?_ | refine Cl.agg ?_ | exact ClO.RO _ _))) ?_
      (conv => arg 4; whnf); repeat (refine ⟨rfl, ?_⟩; conv => arg 4; whnf)
      obtain ⟨l, hl, cl⟩ := ctBlock (size := d) (n := v) (by omega) hv
      refine call0 cl (by (repeat' (first | with_reducible assumption | exact ClL.nil | exact Cl.int _ _ | exact Cl.bool _ | exact Cl.bl _ | exact Cl.bs _ | exact Cl.str _ | exact Cl.nils | exact Cl.nilp | exact Cl.rec _ | exact Cl.bat _ | exact Cl.recsV _ | exact Cl.strsV _ | exact Cl.intsV _ | exact Cl.req _ | exact Cl.rsp _ | exact Cl.reqA _ | exact Cl.rspA _ | exact Cl.batsV _ | exact Cl.getB _ | exact Cl.encA _ | exact Cl.firstA _ | refine ClL.cons ?_ ?_ | refine Cl.tup ?_ | refine Cl.agg ?_ | exact ClO.RO _ _))) (Cl.slFull (ClL.u8s l)) ?_
      (conv => arg 4; whnf); repeat (refine ⟨rfl, ?_⟩; conv => arg 4; whnf)
      exact ⟨⟨0, t, true, [UInt8.ofNat (IntKind.i64.wrap (97 + (c : Int)) % 256).toNat], true, l⟩, ⟨rfl, rfl, Nat.le_refl 1, by show l.length ≤ 40; omega, fun h => Bool.noConfusion (show true = false from h), fun h => Bool.noConfusion (show true = false from h)⟩, by decide, Le.agg (LeL.cons (Le.refl _ _) (LeL.cons (Le.refl _ _) (LeL.cons Le.bl (LeL.cons le_key (LeL.cons Le.bl (LeL.cons Le.none (LeL.nil _))))))), trivial, Cl.rec _ _, trivial⟩
    · (conv => arg 4; whnf); repeat (refine ⟨rfl, ?_⟩; conv => arg 4; whnf)
      exact ⟨⟨0, t, true, [UInt8.ofNat (IntKind.i64.wrap (97 + (c : Int)) % 256).toNat], false, []⟩, ⟨rfl, rfl, Nat.le_refl 1, Nat.zero_le _, fun h => Bool.noConfusion (show true = false from h), fun _ => rfl⟩, by decide, Le.agg (LeL.cons (Le.refl _ _) (LeL.cons (Le.refl _ _) (LeL.cons Le.bl (LeL.cons le_key (LeL.cons Le.bl (LeL.cons Le.nils (LeL.nil _))))))), trivial, Cl.rec _ _, trivial⟩
  · (conv => arg 4; whnf); repeat (refine ⟨rfl, ?_⟩; conv => arg 4; whnf)
    refine ⟨fun h2 => ?_, fun h2 => ?_⟩
    · (conv => arg 4; whnf); repeat (refine ⟨rfl, ?_⟩; conv => arg 4; whnf)
      refine call0 dd (by (repeat' (first | with_reducible assumption | exact ClL.nil | exact Cl.int _ _ | exact Cl.bool _ | exact Cl.bl _ | exact Cl.bs _ | exact Cl.str _ | exact Cl.nils | exact Cl.nilp | exact Cl.rec _ | exact Cl.bat _ | exact Cl.recsV _ | exact Cl.strsV _ | exact Cl.intsV _ | exact Cl.req _ | exact Cl.rsp _ | exact Cl.reqA _ | exact Cl.rspA _ | exact Cl.batsV _ | exact Cl.getB _ | exact Cl.encA _ | exact Cl.firstA _ | refine ClL.cons ?_ ?_ | refine Cl.tup ?_ | refine Cl.agg ?_ | exact ClO.RO _ _))) (by (repeat' (first | with_reducible assumption | exact ClL.nil | exact Cl.int _ _ | exact Cl.bool _ | exact Cl.bl _ | exact Cl.bs _ | exact Cl.str _ | exact Cl.nils | exact Cl.nilp | exact Cl.rec _ | exact Cl.bat _ | exact Cl.recsV _ | exact Cl.strsV _ | exact Cl.intsV _ | exact Cl.req _ | exact Cl.rsp _ | exact Cl.reqA _ | exact Cl.rspA _ | exact Cl.batsV _ | exact Cl.getB _ | exact Cl.encA _ | exact Cl.firstA _ | refine ClL.cons ?_ ?_ | refine Cl.tup ?_ | refine Cl.agg ?_ | exact ClO.RO _ _))) ?_
      (conv => arg 4; whnf); repeat (refine ⟨rfl, ?_⟩; conv => arg 4; whnf)
      obtain ⟨l, hl, cl⟩ := ctBlock (size := d) (n := v) (by omega) hv
      refine call0 cl (by (repeat' (first | with_reducible assumption | exact ClL.nil | exact Cl.int _ _ | exact Cl.bool _ | exact Cl.bl _ | exact Cl.bs _ | exact Cl.str _ | exact Cl.nils | exact Cl.nilp | exact Cl.rec _ | exact Cl.bat _ | exact Cl.recsV _ | exact Cl.strsV _ | exact Cl.intsV _ | exact Cl.req _ | exact Cl.rsp _ | exact Cl.reqA _ | exact Cl.rspA _ | exact Cl.batsV _ | exact Cl.getB _ | exact Cl.encA _ | exact Cl.firstA _ | refine ClL.cons ?_ ?_ | refine Cl.tup ?_ | refine Cl.agg ?_ | exact ClO.RO _ _))) (Cl.slFull (ClL.u8s l)) ?_
      (conv => arg 4; whnf); repeat (refine ⟨rfl, ?_⟩; conv => arg 4; whnf)
      exact ⟨⟨0, t, false, [], true, l⟩, ⟨rfl, rfl, Nat.zero_le _, by show l.length ≤ 40; omega, fun _ => rfl, fun h => Bool.noConfusion (show true = false from h)⟩, by decide, Le.agg (LeL.cons (Le.refl _ _) (LeL.cons (Le.refl _ _) (LeL.cons Le.bl (LeL.cons Le.nils (LeL.cons Le.bl (LeL.cons Le.none (LeL.nil _))))))), trivial, Cl.rec _ _, trivial⟩
    · (conv => arg 4; whnf); repeat (refine ⟨rfl, ?_⟩; conv => arg 4; whnf)
      exact ⟨⟨0, t, false, [], false, []⟩, ⟨rfl, rfl, Nat.zero_le _, Nat.zero_le _, fun _ => rfl, fun _ => rfl⟩, by decide, Le.agg (LeL.cons (Le.refl _ _) (LeL.cons (Le.refl _ _) (LeL.cons Le.bl (LeL.cons Le.nils (LeL.cons Le.bl (LeL.cons Le.nils (LeL.nil _))))))), trivial, Cl.rec _ _, trivial⟩
end Go.Proofs.Ythclmkhkchbpiaa.Ct

namespace Go.Proofs.Ythclmkhkchbpiaa.Ct
set_option maxRecDepth 100000
set_option maxHeartbeats 80000000
open Go.Sym

/-- Records of a client's tests: small ones. -/
def Tame (l : List Rec) : Prop := ∀ (i : Nat) (r : Rec), l[i]? = some r → r.off = 0 ∧ r.time = (i : Int) ∧ r.key.length ≤ 1 ∧ r.val.length ≤ 40 ∧ (r.hk = false → r.key = []) ∧ (r.hv = false → r.val = [])

theorem tame_snoc {l : List Rec} {r : Rec} (h : Tame l) (h1 : r.off = 0) (h2 : r.time = (l.length : Int)) (h3 : r.key.length ≤ 1 ∧ r.val.length ≤ 40 ∧ (r.hk = false → r.key = []) ∧ (r.hv = false → r.val = [])) : Tame (l ++ [r]) := fun i x hx => by
  rw [List.getElem?_append] at hx
  split at hx
  · exact h i x hx
  · have hi : i = l.length := by
      rcases Nat.lt_or_ge (i - l.length) 1 with q | q
      · omega
      · rw [List.getElem?_eq_none (by simp; omega)] at hx; cases hx
    subst hi
    simp at hx
    subst hx
    exact ⟨h1, h2, h3⟩

structure RsI (n : Nat) where
  l : List Rec
  s : Nat
  hi : l.length ≤ n
  ht : Tame l

theorem cut_recs (nx s : Nat) (l : List Rec) : ren (cut 1 nx) (.sl (.tok 0 s) 6 (recsL l)) = .sl (.tok 0 s) 6 (recsL l) := by
  simp only [ren, ren_recs, renP, cut_lt (show 0 < 1 by decide)]

theorem ctRecords {n : Nat} {seed : Int} (hn : n ≤ 100) (hs : I64 seed) (hs2 : ∀ i : Nat, i < n → I64 (seed + i)) : CallOK Try.prog 65 [.int .i64 n, .int .i64 seed] [] 0 (fun a h m => ∃ l : List Rec, (l.length = n ∧ Tame l) ∧ Out (recsV l) [] 0 a h m) := by
  refine CallOK.fitE (by decide) ?_
  refine callOK Try.call65 Try.func65 Try.ntmps65 rfl ?_
  conv => arg 4; whnf
  refine tri_loopG (ι := RsI n) (fun x => ⟨[(6, .int .i64 x.l.length), (5, .sl (.tok 0 x.s) 6 (recsL x.l)), (0, .int .i64 n), (1, .int .i64 seed)], [(0, .tip x.s)], 1, 22⟩) (fun x => n - x.l.length) ⟨[], 0, Nat.zero_le _, fun i r h => by simp at h⟩ ?_ ?_
  · exact WkG.tok rfl rfl ⟨Le.refl _ _, Le.nilsTok rfl, Le.refl _ _, Le.refl _ _, trivial⟩ ⟨⟨_, rfl, rfl⟩, trivial⟩ ⟨rfl, cut_recs _ _ _, rfl, rfl, trivial⟩ ⟨⟨by decide, rfl⟩, trivial⟩
  rintro ⟨l, s, hi, ht⟩
  dsimp only
  have hi : l.length ≤ n := hi
  conv => arg 4; whnf
  refine ⟨fun h => ?_, fun h => ?_⟩
  · have hk : l.length < n := by simp at h; omega
    have hs3 := hs2 l.length hk
    have e1 : IntKind.i64.wrap (seed + (l.length : Int)) = seed + l.length := by unfold I64 at hs3; rw [IntKind.wrap_i64]; omega
    (conv => arg 4; whnf); repeat (refine ⟨rfl, ?_⟩; conv => arg 4; whnf)
    rw [e1]
    refine call0E (ctRecord hs3 (v := (l.length : Int)) (by unfold I64; omega) (t := (l.length : Int)) (by unfold I64; omega)) (by (repeat' (first | with_reducible assumption | exact ClL.nil | exact Cl.int _ _ | exact Cl.bool _ | exact Cl.bl _ | exact Cl.bs _ | exact Cl.str _ | exact Cl.nils | exact Cl.nilp | exact Cl.rec _ | exact Cl.bat _ | exact Cl.recsV _ | exact Cl.strsV _ | exact Cl.intsV _ | exact Cl.req _ | exact Cl.rsp _ | exact Cl.reqA _ | exact Cl.rspA _ | exact Cl.batsV _ | exact Cl.getB _ | exact Cl.encA _ | exact Cl.firstA _ | refine ClL.cons ?_ ?_ | refine Cl.tup ?_ | refine Cl.agg ?_ | exact ClO.RO _ _))) (fun x => by (repeat' (first | with_reducible assumption | exact ClL.nil | exact Cl.int _ _ | exact Cl.bool _ | exact Cl.bl _ | exact Cl.bs _ | exact Cl.str _ | exact Cl.nils | exact Cl.nilp | exact Cl.rec _ | exact Cl.bat _ | exact Cl.recsV _ | exact Cl.strsV _ | exact Cl.intsV _ | exact Cl.req _ | exact Cl.rsp _ | exact Cl.reqA _ | exact Cl.rspA _ | exact Cl.batsV _ | exact Cl.getB _ | exact Cl.encA _ | exact Cl.firstA _ | refine ClL.cons ?_ ?_ | refine Cl.tup ?_ | refine Cl.agg ?_ | exact ClO.RO _ _))) fun r hr => ?_
    (conv => arg 4; whnf); repeat (refine ⟨rfl, ?_⟩; conv => arg 4; whnf)
    refine ⟨⟨rfl, sizeOk 80 rfl ?_⟩, ?_⟩
    · rw [List.length_append, recs_length]; simp only [List.length_cons, List.length_nil]; omega
    (conv => arg 4; whnf); repeat (refine ⟨rfl, ?_⟩; conv => arg 4; whnf)
    refine ⟨⟨l ++ [r], s + 1, by simp; omega, tame_snoc ht hr.1 hr.2.1 hr.2.2⟩, by show n - (l ++ [r]).length < n - l.length; simp; omega, WkG.of rfl rfl ⟨Le.of_eq (by rw [succ_i64 (by omega), List.length_append]; rfl), Le.of_eq ?_, Le.refl _ _, Le.refl _ _, trivial⟩ ⟨⟨_, rfl, rfl⟩, trivial⟩ ⟨rfl, cut_recs _ _ _, rfl, rfl, trivial⟩ ⟨⟨by decide, rfl⟩, trivial⟩⟩
    exact congrArg (AV.sl (.tok 0 (s + 1)) 6) (show recsL l ++ [r.av] = recsL (l ++ [r]) by simp [recsL])
  · have hk : l.length = n := by simp at h; omega
    conv => arg 4; whnf
    refine fin_exit ?_
    show holds _ _ _ _
    conv => arg 4; whnf
    exact ⟨l, ⟨hk, ht⟩, by decide, Le.none, trivial, (by (repeat' (first | with_reducible assumption | exact ClL.nil | exact Cl.int _ _ | exact Cl.bool _ | exact Cl.bl _ | exact Cl.bs _ | exact Cl.str _ | exact Cl.nils | exact Cl.nilp | exact Cl.rec _ | exact Cl.bat _ | exact Cl.recsV _ | exact Cl.strsV _ | exact Cl.intsV _ | exact Cl.req _ | exact Cl.rsp _ | exact Cl.reqA _ | exact Cl.rspA _ | exact Cl.batsV _ | exact Cl.getB _ | exact Cl.encA _ | exact Cl.firstA _ | refine ClL.cons ?_ ?_ | refine Cl.tup ?_ | refine Cl.agg ?_ | exact ClO.RO _ _)) : Cl _) _, trivial⟩
end Go.Proofs.Ythclmkhkchbpiaa.Ct

namespace Go.Proofs.Ythclmkhkchbpiaa.Ct
set_option maxRecDepth 100000
set_option maxHeartbeats 80000000
open Go.Sym

/-- A reader's object. -/
abbrev rdO (t : List UInt8) (part off corr : Int) : AObj := .cells [.str t, .int .i64 part, .int .i64 off, .int .i64 corr]
abbrev RD (t : List UInt8) (part off corr : Int) : Heap := [(0, rdO t part off corr)]
theorem ClO.rd (t : List UInt8) (part off corr : Int) : ClO (rdO t part off corr) := fun ρ => rfl

/-- A request without names. -/
def rqV (kind corr : Int) (t : List UInt8) (part off max : Int) (data : AV) : AV := .agg [.int .i64 kind, .int .i64 corr, .str [], .str t, .int .i64 part, .int .i64 off, .int .i64 0, .int .i64 max, .str [], .str [], .int .i64 0, .nils, data]
/-- An answer without names. -/
def rsV (corr code off : Int) (data : AV) : AV := .agg [.int .i64 corr, .int .i64 code, .int .i64 off, .int .i64 0, .int .i64 0, .str [], .str [], .nils, .nils, data]
theorem Cl.rqV {kind corr : Int} {t : List UInt8} {part off max : Int} {data : AV} (h : Cl data) : Cl (rqV kind corr t part off max data) := by
  unfold Ct.rqV; (repeat' (first | with_reducible assumption | exact ClL.nil | exact Cl.int _ _ | exact Cl.bool _ | exact Cl.bl _ | exact Cl.bs _ | exact Cl.str _ | exact Cl.nils | exact Cl.nilp | exact Cl.rec _ | exact Cl.bat _ | exact Cl.recsV _ | exact Cl.strsV _ | exact Cl.intsV _ | exact Cl.req _ | exact Cl.rsp _ | exact Cl.reqA _ | exact Cl.rspA _ | exact Cl.batsV _ | exact Cl.getB _ | exact Cl.encA _ | exact Cl.firstA _ | refine ClL.cons ?_ ?_ | refine Cl.tup ?_ | refine Cl.agg ?_ | exact ClO.RO _ _))
theorem Cl.rsV {corr code off : Int} {data : AV} (h : Cl data) : Cl (rsV corr code off data) := by
  unfold Ct.rsV; (repeat' (first | with_reducible assumption | exact ClL.nil | exact Cl.int _ _ | exact Cl.bool _ | exact Cl.bl _ | exact Cl.bs _ | exact Cl.str _ | exact Cl.nils | exact Cl.nilp | exact Cl.rec _ | exact Cl.bat _ | exact Cl.recsV _ | exact Cl.strsV _ | exact Cl.intsV _ | exact Cl.req _ | exact Cl.rsp _ | exact Cl.reqA _ | exact Cl.rspA _ | exact Cl.batsV _ | exact Cl.getB _ | exact Cl.encA _ | exact Cl.firstA _ | refine ClL.cons ?_ ?_ | refine Cl.tup ?_ | refine Cl.agg ?_ | exact ClO.RO _ _))

theorem ctNewReader {t : List UInt8} {part off : Int} (h : 0 ≤ off ∧ off ≤ 4611686018427387904) : CallOK Try.prog 59 [.str t, .int .i64 part, .int .i64 off] [] 0 (Out (.tup [.ptr 0 0, .int .i64 0]) (RD t part off 0) 1) := by
  refine callOK Try.call59 Try.func59 Try.ntmps59 rfl ?_
  conv => arg 4; whnf
  refine ⟨fun h' => ?_, fun h' => ?_⟩
  · simp only [Bool.cond_true_left, Bool.cond_false_right, Bool.or_eq_true, Bool.and_eq_true, Bool.not_eq_true', decide_eq_true_eq, beq_iff_eq, bne_iff_ne, u8s_length, Bool.not_eq_true, gt_iff_lt, ge_iff_le] at h'
    omega
  · (conv => arg 4; whnf); repeat (refine ⟨rfl, ?_⟩; conv => arg 4; whnf)
    exact ⟨rfl, rfl, rfl⟩
theorem ctNewReaderNo {t : List UInt8} {part off : Int} (h : ¬ (0 ≤ off ∧ off ≤ 4611686018427387904)) : CallOK Try.prog 59 [.str t, .int .i64 part, .int .i64 off] [] 0 (Out (.tup [.nilp, .int .i64 1]) [] 0) := by
  refine callOK Try.call59 Try.func59 Try.ntmps59 rfl ?_
  conv => arg 4; whnf
  refine ⟨fun h' => ?_, fun h' => ?_⟩
  · (conv => arg 4; whnf); repeat (refine ⟨rfl, ?_⟩; conv => arg 4; whnf)
    exact ⟨rfl, rfl, rfl⟩
  · exact absurd h' (by simp; omega)
theorem ctAsk {t : List UInt8} {part off corr most : Int} (hc : 0 ≤ corr ∧ corr ≤ 1000000) : CallOK Try.prog 60 [.ptr 0 0, .int .i64 most] (RD t part off corr) 1 (Out (rqV 5 (corr + 1) t part off most .nils) (RD t part off (corr + 1)) 1) := by
  refine CallOK.fit (by decide) ?_
  refine callOK Try.call60 Try.func60 Try.ntmps60 rfl ?_
  conv => arg 4; whnf
  have e : IntKind.i64.wrap (corr + 1) = corr + 1 := by rw [IntKind.wrap_i64]; omega
  rw [e]
  exact ⟨by decide, Le.refl _ _, ⟨⟨_, rfl, LeO.refl _ _⟩, trivial⟩, Cl.rqV Cl.nils _, ⟨⟨by decide, rfl⟩, trivial⟩⟩
theorem ctOffset {t : List UInt8} {part off corr : Int} : CallOK Try.prog 62 [.ptr 0 0] (RD t part off corr) 1 (Out (.int .i64 off) (RD t part off corr) 1) := by
  refine callOK Try.call62 Try.func62 Try.ntmps62 rfl ?_
  conv => arg 4; whnf
  exact ⟨rfl, rfl, rfl⟩

def late (l : List Rec) (off : Int) : Bool := match l with | [] => false | r :: _ => decide (r.off < off)
def nextO (l : List Rec) (off : Int) : Int := match l.getLast? with | none => off | some r => r.off + 1
open Classical in
/-- What a reader does with an answer: records, error, where it stands. -/
noncomputable def gotS (corr off c e : Int) (p : List UInt8) : List Rec × Int × Int :=
  if corr = 0 ∨ c ≠ corr then ([], 14, off) else if e ≠ 0 then ([], e, off) else if p = [] then ([], 0, off)
  else if decE p ≠ 0 ∨ late (decB p).recs off = true then ([], 2, off) else ((decB p).recs, 0, nextO (decB p).recs off)

theorem ctGot {t : List UInt8} {part off corr c e o : Int} {p : List UInt8} (hl : p.length ≤ 1000000000) : CallOK Try.prog 61 [.ptr 0 0, rsV c e o (bs p)] (RD t part off corr) 1 (Out (.tup [recsV (gotS corr off c e p).1, .int .i64 (gotS corr off c e p).2.1]) (RD t part (gotS corr off c e p).2.2 corr) 1) := by
  refine CallOK.fit (by decide) ?_
  refine callOK Try.call61 Try.func61 Try.ntmps61 rfl ?_
  conv => arg 4; whnf
  refine ⟨fun h1 => ?_, fun h1 => ?_⟩
  · have h1 : corr = 0 := by simpa using h1
    have e1 : gotS corr off c e p = ([], 14, off) := by rw [gotS, if_pos (.inl h1)]
    (conv => arg 4; whnf); repeat (refine ⟨rfl, ?_⟩; conv => arg 4; whnf)
    rw [e1]
    exact ⟨by decide, Le.tup (LeL.cons Le.nils (LeL.cons (Le.refl _ _) (LeL.nil _))), ⟨⟨_, rfl, LeO.refl _ _⟩, trivial⟩, (by (repeat' (first | with_reducible assumption | exact ClL.nil | exact Cl.int _ _ | exact Cl.bool _ | exact Cl.bl _ | exact Cl.bs _ | exact Cl.str _ | exact Cl.nils | exact Cl.nilp | exact Cl.rec _ | exact Cl.bat _ | exact Cl.recsV _ | exact Cl.strsV _ | exact Cl.intsV _ | exact Cl.req _ | exact Cl.rsp _ | exact Cl.reqA _ | exact Cl.rspA _ | exact Cl.batsV _ | exact Cl.getB _ | exact Cl.encA _ | exact Cl.firstA _ | refine ClL.cons ?_ ?_ | refine Cl.tup ?_ | refine Cl.agg ?_ | exact ClO.RO _ _)) : Cl _) _, ⟨⟨by decide, rfl⟩, trivial⟩⟩
  · have h1 : corr ≠ 0 := by simpa using h1
    (conv => arg 4; whnf); repeat (refine ⟨rfl, ?_⟩; conv => arg 4; whnf)
    refine ⟨fun h2 => ?_, fun h2 => ?_⟩
    · have h2 : c ≠ corr := by simpa using h2
      have e1 : gotS corr off c e p = ([], 14, off) := by rw [gotS, if_pos (.inr h2)]
      (conv => arg 4; whnf); repeat (refine ⟨rfl, ?_⟩; conv => arg 4; whnf)
      rw [e1]
      exact ⟨by decide, Le.tup (LeL.cons Le.nils (LeL.cons (Le.refl _ _) (LeL.nil _))), ⟨⟨_, rfl, LeO.refl _ _⟩, trivial⟩, (by (repeat' (first | with_reducible assumption | exact ClL.nil | exact Cl.int _ _ | exact Cl.bool _ | exact Cl.bl _ | exact Cl.bs _ | exact Cl.str _ | exact Cl.nils | exact Cl.nilp | exact Cl.rec _ | exact Cl.bat _ | exact Cl.recsV _ | exact Cl.strsV _ | exact Cl.intsV _ | exact Cl.req _ | exact Cl.rsp _ | exact Cl.reqA _ | exact Cl.rspA _ | exact Cl.batsV _ | exact Cl.getB _ | exact Cl.encA _ | exact Cl.firstA _ | refine ClL.cons ?_ ?_ | refine Cl.tup ?_ | refine Cl.agg ?_ | exact ClO.RO _ _)) : Cl _) _, ⟨⟨by decide, rfl⟩, trivial⟩⟩
    · have h2 : c = corr := by simpa using h2
      have h12 : ¬ (corr = 0 ∨ c ≠ corr) := by omega
      (conv => arg 4; whnf); repeat (refine ⟨rfl, ?_⟩; conv => arg 4; whnf)
      refine ⟨fun h3 => ?_, fun h3 => ?_⟩
      · have h3 : e ≠ 0 := by simpa using h3
        have e1 : gotS corr off c e p = ([], e, off) := by rw [gotS, if_neg h12, if_pos h3]
        (conv => arg 4; whnf); repeat (refine ⟨rfl, ?_⟩; conv => arg 4; whnf)
        rw [e1]
        exact ⟨by decide, Le.tup (LeL.cons Le.nils (LeL.cons (Le.refl _ _) (LeL.nil _))), ⟨⟨_, rfl, LeO.refl _ _⟩, trivial⟩, (by (repeat' (first | with_reducible assumption | exact ClL.nil | exact Cl.int _ _ | exact Cl.bool _ | exact Cl.bl _ | exact Cl.bs _ | exact Cl.str _ | exact Cl.nils | exact Cl.nilp | exact Cl.rec _ | exact Cl.bat _ | exact Cl.recsV _ | exact Cl.strsV _ | exact Cl.intsV _ | exact Cl.req _ | exact Cl.rsp _ | exact Cl.reqA _ | exact Cl.rspA _ | exact Cl.batsV _ | exact Cl.getB _ | exact Cl.encA _ | exact Cl.firstA _ | refine ClL.cons ?_ ?_ | refine Cl.tup ?_ | refine Cl.agg ?_ | exact ClO.RO _ _)) : Cl _) _, ⟨⟨by decide, rfl⟩, trivial⟩⟩
      · have h3 : e = 0 := by simpa using h3
        (conv => arg 4; whnf); repeat (refine ⟨rfl, ?_⟩; conv => arg 4; whnf)
        refine ⟨fun h4 => ?_, fun h4 => ?_⟩
        · have h4 : p = [] := by rw [u8s_length] at h4; simpa using h4
          have e1 : gotS corr off c e p = ([], 0, off) := by rw [gotS, if_neg h12, if_neg (by simp [h3]), if_pos h4]
          (conv => arg 4; whnf); repeat (refine ⟨rfl, ?_⟩; conv => arg 4; whnf)
          rw [e1]
          exact ⟨by decide, Le.tup (LeL.cons Le.nils (LeL.cons (Le.refl _ _) (LeL.nil _))), ⟨⟨_, rfl, LeO.refl _ _⟩, trivial⟩, (by (repeat' (first | with_reducible assumption | exact ClL.nil | exact Cl.int _ _ | exact Cl.bool _ | exact Cl.bl _ | exact Cl.bs _ | exact Cl.str _ | exact Cl.nils | exact Cl.nilp | exact Cl.rec _ | exact Cl.bat _ | exact Cl.recsV _ | exact Cl.strsV _ | exact Cl.intsV _ | exact Cl.req _ | exact Cl.rsp _ | exact Cl.reqA _ | exact Cl.rspA _ | exact Cl.batsV _ | exact Cl.getB _ | exact Cl.encA _ | exact Cl.firstA _ | refine ClL.cons ?_ ?_ | refine Cl.tup ?_ | refine Cl.agg ?_ | exact ClO.RO _ _)) : Cl _) _, ⟨⟨by decide, rfl⟩, trivial⟩⟩
        · have h4 : p ≠ [] := by rw [u8s_length] at h4; intro h; subst h; simp at h4
          (conv => arg 4; whnf); repeat (refine ⟨rfl, ?_⟩; conv => arg 4; whnf)
          refine call0 (batDecode hl) (by (repeat' (first | with_reducible assumption | exact ClL.nil | exact Cl.int _ _ | exact Cl.bool _ | exact Cl.bl _ | exact Cl.bs _ | exact Cl.str _ | exact Cl.nils | exact Cl.nilp | exact Cl.rec _ | exact Cl.bat _ | exact Cl.recsV _ | exact Cl.strsV _ | exact Cl.intsV _ | exact Cl.req _ | exact Cl.rsp _ | exact Cl.reqA _ | exact Cl.rspA _ | exact Cl.batsV _ | exact Cl.getB _ | exact Cl.encA _ | exact Cl.firstA _ | refine ClL.cons ?_ ?_ | refine Cl.tup ?_ | refine Cl.agg ?_ | exact ClO.RO _ _))) (by (repeat' (first | with_reducible assumption | exact ClL.nil | exact Cl.int _ _ | exact Cl.bool _ | exact Cl.bl _ | exact Cl.bs _ | exact Cl.str _ | exact Cl.nils | exact Cl.nilp | exact Cl.rec _ | exact Cl.bat _ | exact Cl.recsV _ | exact Cl.strsV _ | exact Cl.intsV _ | exact Cl.req _ | exact Cl.rsp _ | exact Cl.reqA _ | exact Cl.rspA _ | exact Cl.batsV _ | exact Cl.getB _ | exact Cl.encA _ | exact Cl.firstA _ | refine ClL.cons ?_ ?_ | refine Cl.tup ?_ | refine Cl.agg ?_ | exact ClO.RO _ _))) ?_
          (conv => arg 4; whnf); repeat (refine ⟨rfl, ?_⟩; conv => arg 4; whnf)
          have h0 : ¬ e ≠ 0 := by omega
          refine ⟨fun h5 => ?_, fun h5 => ?_⟩
          · have h5 : decE p ≠ 0 := by simpa using h5
            have e1 : gotS corr off c e p = ([], 2, off) := by rw [gotS, if_neg h12, if_neg h0, if_neg h4, if_pos (.inl h5)]
            (conv => arg 4; whnf); repeat (refine ⟨rfl, ?_⟩; conv => arg 4; whnf)
            rw [e1]
            exact ⟨by decide, Le.tup (LeL.cons Le.nils (LeL.cons (Le.refl _ _) (LeL.nil _))), ⟨⟨_, rfl, LeO.refl _ _⟩, trivial⟩, (by (repeat' (first | with_reducible assumption | exact ClL.nil | exact Cl.int _ _ | exact Cl.bool _ | exact Cl.bl _ | exact Cl.bs _ | exact Cl.str _ | exact Cl.nils | exact Cl.nilp | exact Cl.rec _ | exact Cl.bat _ | exact Cl.recsV _ | exact Cl.strsV _ | exact Cl.intsV _ | exact Cl.req _ | exact Cl.rsp _ | exact Cl.reqA _ | exact Cl.rspA _ | exact Cl.batsV _ | exact Cl.getB _ | exact Cl.encA _ | exact Cl.firstA _ | refine ClL.cons ?_ ?_ | refine Cl.tup ?_ | refine Cl.agg ?_ | exact ClO.RO _ _)) : Cl _) _, ⟨⟨by decide, rfl⟩, trivial⟩⟩
          · have h5 : decE p = 0 := by simpa using h5
            (conv => arg 4; whnf); repeat (refine ⟨rfl, ?_⟩; conv => arg 4; whnf)
            refine ⟨fun h6 => ?_, fun h6 => ?_⟩
            · have h6 : 0 < (decB p).recs.length := by rw [recs_length] at h6; simp only [decide_eq_true_eq] at h6; omega
              obtain ⟨x, l, hx⟩ : ∃ x l, (decB p).recs = x :: l := by
                cases hh : (decB p).recs with
                | nil => rw [hh] at h6; simp at h6
                | cons x l => exact ⟨x, l, rfl⟩
              have hx0 : (decB p).recs[0]? = some x := by rw [hx]; rfl
              (conv => arg 4; whnf); repeat (refine ⟨rfl, ?_⟩; conv => arg 4; whnf)
              refine ⟨x.av, ⟨by omega, recs_get hx0⟩, ?_⟩
              (conv => arg 4; whnf); repeat (refine ⟨rfl, ?_⟩; conv => arg 4; whnf)
              refine ⟨fun h7 => ?_, fun h7 => ?_⟩
              · have h7 : x.off < off := by simpa using h7
                have e1 : gotS corr off c e p = ([], 2, off) := by rw [gotS, if_neg h12, if_neg h0, if_neg h4, if_pos (.inr (by rw [hx]; simp [late, h7]))]
                (conv => arg 4; whnf); repeat (refine ⟨rfl, ?_⟩; conv => arg 4; whnf)
                rw [e1]
                exact ⟨by decide, Le.tup (LeL.cons Le.nils (LeL.cons (Le.refl _ _) (LeL.nil _))), ⟨⟨_, rfl, LeO.refl _ _⟩, trivial⟩, (by (repeat' (first | with_reducible assumption | exact ClL.nil | exact Cl.int _ _ | exact Cl.bool _ | exact Cl.bl _ | exact Cl.bs _ | exact Cl.str _ | exact Cl.nils | exact Cl.nilp | exact Cl.rec _ | exact Cl.bat _ | exact Cl.recsV _ | exact Cl.strsV _ | exact Cl.intsV _ | exact Cl.req _ | exact Cl.rsp _ | exact Cl.reqA _ | exact Cl.rspA _ | exact Cl.batsV _ | exact Cl.getB _ | exact Cl.encA _ | exact Cl.firstA _ | refine ClL.cons ?_ ?_ | refine Cl.tup ?_ | refine Cl.agg ?_ | exact ClO.RO _ _)) : Cl _) _, ⟨⟨by decide, rfl⟩, trivial⟩⟩
              · have h7 : ¬ x.off < off := by simpa using h7
                have e1 : gotS corr off c e p = ((decB p).recs, 0, nextO (decB p).recs off) := by
                  rw [gotS, if_neg h12, if_neg h0, if_neg h4, if_neg (by rw [hx]; simp [late, h5]; omega)]
                have hf := (chk_fine (dec_yes h5).1).1
                obtain ⟨y, hy⟩ : ∃ y, (decB p).recs[(decB p).recs.length - 1]? = some y := ⟨_, List.getElem?_eq_getElem (by omega)⟩
                have hyl : (decB p).recs.getLast? = some y := by rw [List.getLast?_eq_getElem?]; exact hy
                have hny : nextO (decB p).recs off = y.off + 1 := by rw [nextO, hyl]
                (conv => arg 4; whnf); repeat (refine ⟨rfl, ?_⟩; conv => arg 4; whnf)
                refine ⟨fun _ => ?_, fun h' => absurd h' (by rw [recs_length]; simp only [decide_eq_false_iff_not]; omega)⟩
                (conv => arg 4; whnf); repeat (refine ⟨rfl, ?_⟩; conv => arg 4; whnf)
                have hix : IntKind.i64.wrap (((recsL (decB p).recs).length : Int) - 1) = (((decB p).recs.length - 1 : Nat) : Int) := by
                  have := hf.few
                  rw [recs_length, IntKind.wrap_i64]; omega
                refine ⟨y.av, ⟨by rw [hix]; omega, by rw [hix]; exact recs_get hy⟩, ?_⟩
                (conv => arg 4; whnf); repeat (refine ⟨rfl, ?_⟩; conv => arg 4; whnf)
                have hyo : IntKind.i64.wrap (y.off + 1) = y.off + 1 := by
                  have h1 := (hf.recs y (List.mem_of_getElem? hy))
                  have h2 := hf.head
                  unfold HeadBad at h2
                  unfold Rec.fine at h1
                  rw [IntKind.wrap_i64]
                  omega
                rw [e1, hny, hyo]
                exact ⟨by decide, Le.refl _ _, ⟨⟨_, rfl, LeO.refl _ _⟩, trivial⟩, Cl.tup (ClL.cons (Cl.recsV _) (ClL.cons (Cl.int _ _) ClL.nil)) _, ⟨⟨by decide, rfl⟩, trivial⟩⟩
            · have h6 : (decB p).recs = [] := by rw [recs_length] at h6; simpa using h6
              have e1 : gotS corr off c e p = ((decB p).recs, 0, off) := by
                rw [gotS, if_neg h12, if_neg h0, if_neg h4, if_neg (by rw [h6]; simp [late, h5]), h6]; rfl
              (conv => arg 4; whnf); repeat (refine ⟨rfl, ?_⟩; conv => arg 4; whnf)
              rw [h6]
              refine ⟨fun h' => absurd h' (by decide), fun _ => ?_⟩
              (conv => arg 4; whnf); repeat (refine ⟨rfl, ?_⟩; conv => arg 4; whnf)
              rw [e1, h6]
              exact ⟨by decide, Le.refl _ _, ⟨⟨_, rfl, LeO.refl _ _⟩, trivial⟩, Cl.tup (ClL.cons (Cl.recsV _) (ClL.cons (Cl.int _ _) ClL.nil)) _, ⟨⟨by decide, rfl⟩, trivial⟩⟩

/-- Nothing's answers. -/
theorem nilAsk {most : Int} : CallOK Try.prog 60 [.nilp, .int .i64 most] [] 0 (Out (rqV 0 0 [] 0 0 0 .nils) [] 0) := by
  refine CallOK.fit (by decide) ?_
  refine callOK Try.call60 Try.func60 Try.ntmps60 rfl ?_
  conv => arg 4; whnf
  exact ⟨by decide, Le.refl _ _, trivial, Cl.rqV Cl.nils _, trivial⟩
theorem nilOffset : CallOK Try.prog 62 [.nilp] [] 0 (Out (.int .i64 0) [] 0) := by
  refine CallOK.fit (by decide) ?_
  refine callOK Try.call62 Try.func62 Try.ntmps62 rfl ?_
  conv => arg 4; whnf
  exact ⟨by decide, Le.refl _ _, trivial, (by (repeat' (first | with_reducible assumption | exact ClL.nil | exact Cl.int _ _ | exact Cl.bool _ | exact Cl.bl _ | exact Cl.bs _ | exact Cl.str _ | exact Cl.nils | exact Cl.nilp | exact Cl.rec _ | exact Cl.bat _ | exact Cl.recsV _ | exact Cl.strsV _ | exact Cl.intsV _ | exact Cl.req _ | exact Cl.rsp _ | exact Cl.reqA _ | exact Cl.rspA _ | exact Cl.batsV _ | exact Cl.getB _ | exact Cl.encA _ | exact Cl.firstA _ | refine ClL.cons ?_ ?_ | refine Cl.tup ?_ | refine Cl.agg ?_ | exact ClO.RO _ _)) : Cl _) _, trivial⟩
theorem nilGot {c e o : Int} : CallOK Try.prog 61 [.nilp, rsV c e o .nils] [] 0 (Out (.tup [recsV [], .int .i64 1]) [] 0) := by
  refine CallOK.fit (by decide) ?_
  refine callOK Try.call61 Try.func61 Try.ntmps61 rfl ?_
  conv => arg 4; whnf
  exact ⟨by decide, Le.tup (LeL.cons Le.nils (LeL.cons (Le.refl _ _) (LeL.nil _))), trivial, (by (repeat' (first | with_reducible assumption | exact ClL.nil | exact Cl.int _ _ | exact Cl.bool _ | exact Cl.bl _ | exact Cl.bs _ | exact Cl.str _ | exact Cl.nils | exact Cl.nilp | exact Cl.rec _ | exact Cl.bat _ | exact Cl.recsV _ | exact Cl.strsV _ | exact Cl.intsV _ | exact Cl.req _ | exact Cl.rsp _ | exact Cl.reqA _ | exact Cl.rspA _ | exact Cl.batsV _ | exact Cl.getB _ | exact Cl.encA _ | exact Cl.firstA _ | refine ClL.cons ?_ ?_ | refine Cl.tup ?_ | refine Cl.agg ?_ | exact ClO.RO _ _)) : Cl _) _, trivial⟩
theorem nilRetry : CallOK Try.prog 66 [.nilp] [] 0 (Out (.tup [rqV 0 0 [] 0 0 0 .nils, .bl false]) [] 0) := by
  refine CallOK.fit (by decide) ?_
  refine callOK Try.call66 Try.func66 Try.ntmps66 rfl ?_
  conv => arg 4; whnf
  exact ⟨by decide, Le.refl _ _, trivial, Cl.tup (ClL.cons (Cl.rqV Cl.nils) (ClL.cons (Cl.bl _) ClL.nil)) _, trivial⟩
theorem nilDone {c e o : Int} : CallOK Try.prog 67 [.nilp, rsV c e o .nils] [] 0 (Out (.tup [.int .i64 0, .int .i64 1]) [] 0) := by
  refine CallOK.fit (by decide) ?_
  refine callOK Try.call67 Try.func67 Try.ntmps67 rfl ?_
  conv => arg 4; whnf
  exact ⟨by decide, Le.refl _ _, trivial, (by (repeat' (first | with_reducible assumption | exact ClL.nil | exact Cl.int _ _ | exact Cl.bool _ | exact Cl.bl _ | exact Cl.bs _ | exact Cl.str _ | exact Cl.nils | exact Cl.nilp | exact Cl.rec _ | exact Cl.bat _ | exact Cl.recsV _ | exact Cl.strsV _ | exact Cl.intsV _ | exact Cl.req _ | exact Cl.rsp _ | exact Cl.reqA _ | exact Cl.rspA _ | exact Cl.batsV _ | exact Cl.getB _ | exact Cl.encA _ | exact Cl.firstA _ | refine ClL.cons ?_ ?_ | refine Cl.tup ?_ | refine Cl.agg ?_ | exact ClO.RO _ _)) : Cl _) _, trivial⟩
theorem nilSeq {t : List UInt8} {part : Int} : CallOK Try.prog 68 [.nilp, .str t, .int .i64 part] [] 0 (Out (.int .i64 0) [] 0) := by
  refine CallOK.fit (by decide) ?_
  refine callOK Try.call68 Try.func68 Try.ntmps68 rfl ?_
  conv => arg 4; whnf
  exact ⟨by decide, Le.refl _ _, trivial, (by (repeat' (first | with_reducible assumption | exact ClL.nil | exact Cl.int _ _ | exact Cl.bool _ | exact Cl.bl _ | exact Cl.bs _ | exact Cl.str _ | exact Cl.nils | exact Cl.nilp | exact Cl.rec _ | exact Cl.bat _ | exact Cl.recsV _ | exact Cl.strsV _ | exact Cl.intsV _ | exact Cl.req _ | exact Cl.rsp _ | exact Cl.reqA _ | exact Cl.rspA _ | exact Cl.batsV _ | exact Cl.getB _ | exact Cl.encA _ | exact Cl.firstA _ | refine ClL.cons ?_ ?_ | refine Cl.tup ?_ | refine Cl.agg ?_ | exact ClO.RO _ _)) : Cl _) _, trivial⟩
theorem nilMake {t : List UInt8} {part : Int} {l : List Rec} : CallOK Try.prog 64 [.nilp, .str t, .int .i64 part, recsV l] [] 0 (Out (.tup [rqV 0 0 [] 0 0 0 .nils, .int .i64 1]) [] 0) := by
  refine CallOK.fit (by decide) ?_
  refine callOK Try.call64 Try.func64 Try.ntmps64 rfl ?_
  conv => arg 4; whnf
  exact ⟨by decide, Le.refl _ _, trivial, Cl.tup (ClL.cons (Cl.rqV Cl.nils) (ClL.cons (Cl.int _ _) ClL.nil)) _, trivial⟩
end Go.Proofs.Ythclmkhkchbpiaa.Ct

namespace Go.Proofs.Ythclmkhkchbpiaa.Ct
set_option maxRecDepth 100000
set_option maxHeartbeats 80000000
open Go.Sym

/-- A producer's object, behind its map. -/
abbrev pdO (id ep corr : Int) (under : AV) (count : Int) : AObj := .cells [.int .i64 id, .int .i64 ep, .int .i64 corr, .map 0, under, .int .i64 count]
abbrev PD (id ep corr : Int) (m : List (AV × AV)) (under : AV) (count : Int) : Heap := [(1, pdO id ep corr under count), (0, .map m)]

theorem ctNewProducer {id ep : Int} (h : 1 ≤ id ∧ id ≤ 1099511627776 ∧ 0 ≤ ep ∧ ep ≤ 32767) : CallOK Try.prog 91 [.int .i64 id, .int .i64 ep] [] 0 (Out (.tup [.ptr 1 0, .int .i64 0]) (PD id ep 0 [] .nilp 0) 2) := by
  refine callOK Try.call91 Try.func91 Try.ntmps91 rfl ?_
  conv => arg 4; whnf
  refine ⟨fun h' => ?_, fun h' => ?_⟩
  · exact absurd h' (by simp; omega)
  · (conv => arg 4; whnf); repeat (refine ⟨rfl, ?_⟩; conv => arg 4; whnf)
    exact ⟨rfl, rfl, rfl⟩
theorem ctNewProducerNo : CallOK Try.prog 91 [.int .i64 0, .int .i64 0] [] 0 (Out (.tup [.nilp, .int .i64 1]) [] 0) := by
  refine callOK Try.call91 Try.func91 Try.ntmps91 rfl ?_
  conv => arg 4; whnf
  refine ⟨fun h' => ?_, fun h' => absurd h' (by decide)⟩
  (conv => arg 4; whnf); repeat (refine ⟨rfl, ?_⟩; conv => arg 4; whnf)
  exact ⟨rfl, rfl, rfl⟩

abbrev slA (t : List UInt8) (part : Int) : AV := .agg [.str t, .int .i64 part]
theorem askS0 (t : List UInt8) (part : Int) : mapAsk Try.prog 149 [] (slA t part) := ⟨⟨by decide +kernel, by decide +kernel⟩, rfl, fun e he => by cases he⟩
theorem ctSeq {id ep corr count : Int} {t : List UInt8} {part : Int} : CallOK Try.prog 68 [.ptr 1 0, .str t, .int .i64 part] (PD id ep corr [] .nilp count) 2 (Out (.int .i64 0) (PD id ep corr [] .nilp count) 2) := by
  refine CallOK.fit (by decide) ?_
  refine callOK Try.call68 Try.func68 Try.ntmps68 rfl ?_
  conv => arg 4; whnf
  refine ⟨.int .i64 0, ⟨by decide, rfl⟩, ?_⟩
  conv => arg 4; whnf
  refine ⟨askS0 t part, ?_⟩
  (conv => arg 4; whnf); repeat (refine ⟨rfl, ?_⟩; conv => arg 4; whnf)
  exact ⟨by decide, Le.refl _ _, ⟨⟨_, rfl, LeO.refl _ _⟩, ⟨_, rfl, LeO.refl _ _⟩, trivial⟩, (by (repeat' (first | with_reducible assumption | exact ClL.nil | exact Cl.int _ _ | exact Cl.bool _ | exact Cl.bl _ | exact Cl.bs _ | exact Cl.str _ | exact Cl.nils | exact Cl.nilp | exact Cl.rec _ | exact Cl.bat _ | exact Cl.recsV _ | exact Cl.strsV _ | exact Cl.intsV _ | exact Cl.req _ | exact Cl.rsp _ | exact Cl.reqA _ | exact Cl.rspA _ | exact Cl.batsV _ | exact Cl.getB _ | exact Cl.encA _ | exact Cl.firstA _ | refine ClL.cons ?_ ?_ | refine Cl.tup ?_ | refine Cl.agg ?_ | exact ClO.RO _ _)) : Cl _) _, ⟨⟨by decide, rfl⟩, ⟨by decide, rfl⟩, trivial⟩⟩

theorem elemV_rec {l : List Rec} {a : AV} (h : a ∈ [] ++ recsL l) : elemV 6 a = true := by
  rw [List.nil_append] at h
  obtain ⟨c, -, rfl⟩ := List.mem_map.1 h
  rfl
theorem cloneRecs {l : List Rec} (hl : 1 ≤ l.length ∧ l.length ≤ 100) : CallOK Try.prog 93 [recsV l] [] 0 (Out (.vec 0 6 l.length) [(0, .cells (flatA 6 (recsL l)))] 1) := by
  refine callOK Try.call93 Try.func93 Try.ntmps93 rfl ?_
  conv => arg 4; whnf
  intro b hb
  cases b with
  | true =>
    have hb := congrArg List.length (hb rfl)
    rw [recs_length] at hb
    simp at hb
    subst hb
    simp at hl
  | false =>
    refine ⟨fun h => (by cases h), fun _ => ?_⟩
    conv => arg 4; whnf
    refine ⟨sizeOk 80 rfl ?_, ?_⟩
    · rw [List.nil_append, recs_length]; omega
    refine Or.inr ?_
    conv => arg 4; whnf
    refine ⟨⟨by rw [recs_length]; omega, fun a ha => elemV_rec ha⟩, ?_⟩
    conv => arg 4; whnf
    refine ⟨?_, rfl, rfl⟩
    rw [List.nil_append, recs_length]
/-- A call that answers with a new object. -/
theorem callNewA {P : Program} {Q : AExit → St → Prop} {K : AV → Heap → Nat → Prop} {f : FuncId} {args : List AV} {h : Heap} {nx : Nat} {k : AV → Heap → Nat → R} {a1 a1' : AV} {o : AObj} (c : CallOK P f args [] 0 (Out a1 [(0, o)] 1)) (hargs : ClL args) (ho : ClO o)
    (ha : ren (rho nx []) a1 = a1') (hk : holds P Q K (k a1' ((nx, o) :: h) (nx + 1))) : holds P Q K (.call f args h nx k) :=
  CallOK.frame (names := []) c rfl trivial (hargs _).symm fun a0 h0' m' ⟨e1, e2, e3⟩ => by
    subst e1; subst e2; subst e3
    rw [ha]
    have e : mergeH nx [] h [(0, o)] = (nx, o) :: h := by
      show (nx + 0, renO (rho nx []) o) :: keepH nx [] _ h = _
      rw [ho]
      have : ∀ (h0 : Heap) (h : Heap), keepH nx [] h0 h = h := fun h0 h => by
        induction h with
        | nil => rfl
        | cons x r ih => obtain ⟨j, x⟩ := x; unfold keepH idx; simp only; rw [ih]
      rw [this]
      rfl
    rw [e]
    exact hk
theorem flat_cons (r : Rec) (l : List Rec) : flatA 6 (recsL (r :: l)) = [.int .i64 r.off, .int .i64 r.time, .bool r.hk, bs r.key, .bool r.hv, bs r.val] ++ flatA 6 (recsL l) := rfl
theorem ClL.flat : ∀ l : List Rec, ClL (flatA 6 (recsL l))
  | [] => ClL.nil
  | r :: l => ClL.cons (Cl.int _ _) (ClL.cons (Cl.int _ _) (ClL.cons (Cl.bool _) (ClL.cons (Cl.bs _) (ClL.cons (Cl.bool _) (ClL.cons (Cl.bs _) (ClL.flat l))))))
theorem ClO.flat (l : List Rec) : ClO (.cells (flatA 6 (recsL l))) := ClO.cells (ClL.flat l)
theorem flat_length : ∀ l : List Rec, (flatA 6 (recsL l)).length = l.length * 6
  | [] => rfl
  | r :: l => by
    rw [flat_cons, List.length_append, flat_length l, List.length_cons]
    simp only [List.length_cons, List.length_nil]
    omega
theorem flat_set {x : Int} : ∀ {l : List Rec} {i : Nat} {r : Rec}, l[i]? = some r → (flatA 6 (recsL l)).set (i * 6) (.int .i64 x) = flatA 6 (recsL (l.set i { r with off := x }))
  | [], i, r, h => by simp at h
  | q :: l, 0, r, h => by
    simp only [List.getElem?_cons_zero, Option.some.injEq] at h
    subst h
    rfl
  | q :: l, i + 1, r, h => by
    rw [List.getElem?_cons_succ] at h
    rw [List.set_cons_succ, flat_cons, flat_cons, ← flat_set h, List.set_append_right _ _ (by simp; omega)]
    congr 2
    simp only [List.length_cons, List.length_nil]
    omega

/-- Records of which the first ones are numbered. -/
def numR (l : List Rec) (k : Nat) : List Rec := l.mapIdx fun i r => if i < k then { r with off := (i : Int) } else r
theorem num_zero (l : List Rec) : numR l 0 = l := by
  apply List.ext_getElem?
  intro i
  simp [numR]
theorem num_length (l : List Rec) (k : Nat) : (numR l k).length = l.length := by simp [numR]
theorem num_get (l : List Rec) (k i : Nat) : (numR l k)[i]? = (l[i]?).map fun r => if i < k then { r with off := (i : Int) } else r := by simp [numR]
theorem num_step {l : List Rec} {k : Nat} {r : Rec} (h : l[k]? = some r) : (numR l k).set k { r with off := (k : Int) } = numR l (k + 1) := by
  apply List.ext_getElem?
  intro i
  have hk : k < l.length := by
    rcases Nat.lt_or_ge k l.length with q | q
    · exact q
    · rw [List.getElem?_eq_none q] at h; cases h
  rw [List.getElem?_set, num_get, num_get, num_length]
  by_cases e : k = i
  · subst e
    rw [if_pos rfl, if_pos hk, h]
    simp
  · rw [if_neg e]
    cases l[i]? with
    | none => rfl
    | some x =>
      simp only [Option.map_some]
      by_cases h1 : i < k
      · rw [if_pos h1, if_pos (by omega)]
      · rw [if_neg h1, if_neg (by omega)]

/-- The batch that is made of records. -/
def mkB (l : List Rec) : Bat := ⟨0, (l.length : Int) - 1, 1, 0, 0, numR l l.length⟩
theorem mkB_get {l : List Rec} (ht : Tame l) {k : Nat} {x : Rec} (h : (mkB l).recs[k]? = some x) : x.off = (k : Int) ∧ x.time = (k : Int) ∧ k < l.length ∧ x.key.length ≤ 1 ∧ x.val.length ≤ 40 ∧ (x.hk = false → x.key = []) ∧ (x.hv = false → x.val = []) := by
  have h : (numR l l.length)[k]? = some x := h
  have hk : k < l.length := by
    rcases Nat.lt_or_ge k l.length with q | q
    · exact q
    · rw [List.getElem?_eq_none (by rw [num_length]; exact q)] at h; cases h
  rw [num_get] at h
  obtain ⟨r, hr⟩ : ∃ r, l[k]? = some r := ⟨_, List.getElem?_eq_getElem hk⟩
  rw [hr] at h
  simp only [Option.map_some, if_pos hk, Option.some.injEq] at h
  obtain ⟨h1, h2, h3⟩ := ht k r hr
  subst h
  exact ⟨rfl, h2, hk, h3⟩
theorem mkB_recE {l : List Rec} (ht : Tame l) (hl : l.length ≤ 100) {k : Nat} {x : Rec} (h : (mkB l).recs[k]? = some x) : recE x (mkB l).base (mkB l).last ((k : Int) - 1) = 0 := by
  obtain ⟨h1, h2, h3, h4, h5, h6, h7⟩ := mkB_get ht h
  have hb : (mkB l).base = 0 := rfl
  have hc : (mkB l).last = (l.length : Int) - 1 := rfl
  refine recE_ok ?_ ?_
  · unfold RecBad
    rw [h1, h2, hb, hc]
    rintro ((hh | ⟨e, q⟩) | ⟨e, q⟩)
    · omega
    · rw [h6 e] at q; simp at q
    · rw [h7 e] at q; simp at q
  · unfold RecBig
    omega
theorem mkB_recsE {l : List Rec} (ht : Tame l) (hl : l.length ≤ 100) : ∀ (n k : Nat), k + n = l.length → recsE (mkB l) ((mkB l).recs.drop k) ((k : Int) - 1) = 0
  | 0, k, h => by
    have : (mkB l).recs.drop k = [] := List.drop_eq_nil_of_le (by show (numR l l.length).length ≤ k; rw [num_length]; omega)
    rw [this]; rfl
  | n + 1, k, h => by
    obtain ⟨x, hx⟩ : ∃ x, (mkB l).recs[k]? = some x := ⟨_, List.getElem?_eq_getElem (by show k < (numR l l.length).length; rw [num_length]; omega)⟩
    rw [recsE_drop hx, if_neg (by rw [mkB_recE ht hl hx]; simp), (mkB_get ht hx).1]
    have := mkB_recsE ht hl n (k + 1) (by omega)
    rw [show (((k + 1 : Nat) : Int) - 1) = (k : Int) by omega] at this
    exact this
theorem mkB_length (l : List Rec) : (mkB l).recs.length = l.length := num_length _ _
theorem mkB_chk {l : List Rec} (ht : Tame l) (hl : 1 ≤ l.length ∧ l.length ≤ 100) : (mkB l).chk = 0 := by
  have hh : ¬ HeadBad (mkB l) := by
    unfold HeadBad mkB
    dsimp only
    omega
  have he := mkB_recsE ht hl.2 l.length 0 (by omega)
  rw [List.drop_zero] at he
  have he : recsE (mkB l) (mkB l).recs (-1) = 0 := he
  have hf := fine_of hh (by rw [mkB_length]; omega) he
  refine chk_ok hh (by rw [mkB_length]; omega) he ?_
  have h1 := recsB_wt hf (mkB l).recs hf.recs
  have h2 : ∀ (m : List Rec), (∀ x ∈ m, x.key.length ≤ 1 ∧ x.val.length ≤ 40) → wtR m ≤ 100 * m.length := fun m => by
    induction m with
    | nil => intro _; simp [wtR]
    | cons x m ih =>
      intro h
      have := ih fun y hy => h y (List.mem_cons_of_mem _ hy)
      have hx := h x List.mem_cons_self
      simp only [wtR, List.map_cons, List.sum_cons, List.length_cons] at this ⊢
      have hw : x.wt = 1 + x.key.length + x.val.length := rfl
      omega
  have h3 := h2 (mkB l).recs fun x hx => by
    obtain ⟨k, hk⟩ := List.mem_iff_getElem?.1 hx
    have := mkB_get ht hk
    omega
  rw [batE_len, Bat.rest, List.length_append, head_len]
  rw [mkB_length] at h1 h3
  omega

/-- A part of an aggregate, an array of one's own, frozen. -/
theorem freezeP {n : Nat} {f f' : Nat → AV} {h h' : Heap} {nx id k m : Nat} {l els : List AV} (hg : get h id = some (.cells l))
    (hels : ∀ (F : Fix) (V : View) (us : List Value), repL F V l us → (∀ x ∈ us, x.oneCell' = true) → ∃ xs, xs.length = m ∧ repL F V els xs ∧ (∀ x ∈ xs, elemOk k x) ∧ flat xs = us)
    (hf : ∀ t, f' t = f t ∨ ∃ pre post, f t = .agg (pre ++ .vec id k m :: post) ∧ f' t = .agg (pre ++ .sl .none k els :: post))
    (hh : ∀ j o, get h' j = some o → j ≠ id ∧ get h j = some o) : Gh n f h nx f' h' nx := by
  intro hn
  refine ⟨hn, fun F V w ρ i hfr r => ?_⟩
  obtain ⟨b, vs, e, q1, q2, q3, q4⟩ := i.objs id _ hg
  have hown : own V id (.cells l) = some b := q1
  have hnone : ∀ o, F b o = none := fun o => i.nofix id _ b o hg hown trivial
  let F' : Fix := fun b' o => if b' = b then vs[o]? else F b' o
  have hF : F.le F' := ⟨fun b' o x hx => by
    show (if b' = b then vs[o]? else F b' o) = some x
    by_cases e : b' = b
    · subst e; rw [hnone] at hx; cases hx
    · rw [if_neg e]; exact hx⟩
  have hnew : ∀ b' o x, F' b' o = some x → F b' o = some x ∨ b' = b := fun b' o x hx => by
    by_cases e : b' = b
    · exact .inr e
    · have : (if b' = b then vs[o]? else F b' o) = some x := hx
      rw [if_neg e] at this; exact .inl this
  have hno : ∀ j o, get h' j = some o → own V j o = some b → False := fun j o hj ho => by
    obtain ⟨h1, h2⟩ := hh j o hj
    exact h1 (i.inj j id o _ b h2 hg ho hown)
  obtain ⟨xs, hm, hxr, hxe, hxf⟩ := hels F V _ q3 q4
  refine ⟨F', V, hF, View.leN_refl n V, ?_, ?_, ⟨?_, ?_, ?_, ?_⟩, hfr, fun t => ?_⟩
  · rintro b' ⟨j, o, hj, ho⟩
    exact ⟨j, o, (hh j o hj).2, ho⟩
  · intro b' o x hx
    rcases hnew b' o x hx with h | rfl
    · exact .inl h
    · exact .inr ⟨id, _, hg, hown⟩
  · intro b' o x hx
    rcases hnew b' o x hx with h | rfl
    · exact i.fixed b' o x h
    · have : (if b' = b' then vs[o]? else F b' o) = some x := hx
      simp only [if_true] at this
      simp only [World.cell?, q2]
      simpa using this
  · intro j o hj
    obtain ⟨h1, h2⟩ := hh j o hj
    have := i.objs j o h2
    cases o with
    | cells l' =>
      obtain ⟨b', vs', e', p1, p2, p3, p4⟩ := this
      exact ⟨b', vs', e', p1, p2, p3.mono hF (.refl V), p4⟩
    | tip s => exact this
    | map es =>
      obtain ⟨b', xs, clock, p1, p2, p3, p4, p5⟩ := this
      exact ⟨b', xs, clock, p1, p2, p3.mono hF (.refl V), p4.mono hF (.refl V), p5⟩
    | ment es mj ms =>
      obtain ⟨b', xs, clock, p1, p2, p3, p4, p5⟩ := this
      exact ⟨b', xs, clock, p1, p2, p3.mono hF (.refl V), p4.mono hF (.refl V), p5⟩
    | loop en kk ps sa bo st =>
      obtain ⟨b', r', p1, p2, p3, p4, p5, p6, p7, p8⟩ := this
      exact ⟨b', r', p1, p2, p3, p4, p5, p6, fun t => rep.mono hF (.refl V) _ _ (p7 t), p8⟩
  · intro j o b' off hj ho hfree
    have hne : b' ≠ b := fun e => hno j o hj (by rw [← e]; exact ho)
    show (if b' = b then vs[off]? else F b' off) = none
    rw [if_neg hne]
    exact i.nofix j o b' off (hh j o hj).2 ho hfree
  · intro j j' o o' b' hj hj' ho ho'
    exact i.inj j j' o o' b' (hh j o hj).2 (hh j' o' hj').2 ho ho'
  · have fixd : FixedAt F' b 0 (flat xs) := fun j x hx => by
      rw [hxf, List.getElem?_take] at hx
      show (if b = b then vs[0 + j]? else F b (0 + j)) = some x
      split at hx
      · simpa using hx
      · cases hx
    rcases hf t with e | ⟨pre, post, e1, e2⟩
    · rw [e]; exact (r t).mono hF (.refl V)
    · have hr := r t
      rw [e1] at hr
      rw [e2]
      simp only [rep] at hr ⊢
      obtain ⟨vs, hv, hl, ho⟩ := hr
      refine ⟨vs, hv, ?_, ho⟩
      have r1 := hl.take pre.length
      have r2 := hl.drop pre.length
      rw [List.take_left] at r1
      rw [List.drop_left] at r2
      rw [← List.take_append_drop pre.length vs]
      refine repL.append (r1.mono hF (.refl V)) ?_
      simp only [repL] at r2 ⊢
      obtain ⟨x, rest, e3, hx, hrest⟩ := r2
      refine ⟨x, rest, e3, ?_, hrest.mono hF (.refl V)⟩
      simp only [rep] at hx ⊢
      obtain ⟨b', cap, hc, hb', hxv⟩ := hx
      rw [q1] at hb'; cases hb'
      exact .inl ⟨b, 0, cap, xs, by rw [hxv, hm], hxr.mono hF (.refl V), hxe, fixd, by simpa [permOk, hm] using hc⟩

theorem unflat {F : Fix} {V : View} : ∀ (m : List Rec) (us : List Value), repL F V (flatA 6 (recsL m)) us → (∀ x ∈ us, x.oneCell' = true) → ∃ xs, xs.length = m.length ∧ repL F V (recsL m) xs ∧ (∀ x ∈ xs, elemOk 6 x) ∧ flat xs = us
  | [], us, h, _ => ⟨[], rfl, rfl, (fun x hx => by cases hx), by
    have := h.length
    exact (List.eq_nil_of_length_eq_zero (this.symm.trans rfl)).symm⟩
  | r :: m, us, h, ho => by
    rw [flat_cons] at h
    have h1 : repL F V [.int .i64 r.off, .int .i64 r.time, .bool r.hk, bs r.key, .bool r.hv, bs r.val] (us.take 6) := h.take 6
    have h2 : repL F V (flatA 6 (recsL m)) (us.drop 6) := h.drop 6
    obtain ⟨xs, q1, q2, q3, q4⟩ := unflat m (us.drop 6) h2 fun x hx => ho x (List.mem_of_mem_drop hx)
    have hl := h1.length
    have ho1 : ∀ x ∈ us.take 6, x.oneCell' = true := fun x hx => ho x (List.mem_of_mem_take hx)
    refine ⟨.agg (us.take 6).toArray :: xs, by simp [q1], ⟨_, _, rfl, ⟨_, rfl, h1, ho1⟩, q2⟩, ?_, ?_⟩
    · intro x hx
      rcases List.mem_cons.1 hx with rfl | hx
      · unfold elemOk
        rw [if_neg (by decide)]
        exact ⟨_, rfl, by rw [List.size_toArray]; exact hl.symm, fun c hc => ho1 c (by simpa using hc)⟩
      · exact q3 x hx
    · show (us.take 6).toArray.toList ++ flat xs = us
      rw [q4, List.take_append_drop]

structure MkI (n : Nat) where
  i : Nat
  hi : i ≤ n

theorem ctOwn {kind corr part off max : Int} {t d : List UInt8} (hd : d.length ≤ 100000000000000) : CallOK Try.prog 94 [rqV kind corr t part off max (bs d)] [] 0 (Out (rqV kind corr t part off max (bs d)) [] 0) := by
  refine CallOK.fit (by decide) ?_
  refine callOK Try.call94 Try.func94 Try.ntmps94 rfl ?_
  conv => arg 4; whnf
  refine call0 (clone hd) (by (repeat' (first | with_reducible assumption | exact ClL.nil | exact Cl.int _ _ | exact Cl.bool _ | exact Cl.bl _ | exact Cl.bs _ | exact Cl.str _ | exact Cl.nils | exact Cl.nilp | exact Cl.rec _ | exact Cl.bat _ | exact Cl.recsV _ | exact Cl.strsV _ | exact Cl.intsV _ | exact Cl.req _ | exact Cl.rsp _ | exact Cl.reqA _ | exact Cl.rspA _ | exact Cl.batsV _ | exact Cl.getB _ | exact Cl.encA _ | exact Cl.firstA _ | refine ClL.cons ?_ ?_ | refine Cl.tup ?_ | refine Cl.agg ?_ | exact ClO.RO _ _))) (by (repeat' (first | with_reducible assumption | exact ClL.nil | exact Cl.int _ _ | exact Cl.bool _ | exact Cl.bl _ | exact Cl.bs _ | exact Cl.str _ | exact Cl.nils | exact Cl.nilp | exact Cl.rec _ | exact Cl.bat _ | exact Cl.recsV _ | exact Cl.strsV _ | exact Cl.intsV _ | exact Cl.req _ | exact Cl.rsp _ | exact Cl.reqA _ | exact Cl.rspA _ | exact Cl.batsV _ | exact Cl.getB _ | exact Cl.encA _ | exact Cl.firstA _ | refine ClL.cons ?_ ?_ | refine Cl.tup ?_ | refine Cl.agg ?_ | exact ClO.RO _ _))) ?_
  (conv => arg 4; whnf); repeat (refine ⟨rfl, ?_⟩; conv => arg 4; whnf)
  exact ⟨by decide, Le.refl _ _, trivial, Cl.rqV (Cl.bs _) _, trivial⟩

abbrev rqO (kind corr : Int) (t : List UInt8) (part : Int) (data : AV) : AObj := .cells [.int .i64 kind, .int .i64 corr, .str [], .str t, .int .i64 part, .int .i64 0, .int .i64 0, .int .i64 0, .str [], .str [], .int .i64 0, .nils, data]
theorem ClO.rq {kind corr : Int} {t : List UInt8} {part : Int} {data : AV} (h : Cl data) : ClO (rqO kind corr t part data) := ClO.cells (by (repeat' (first | with_reducible assumption | exact ClL.nil | exact Cl.int _ _ | exact Cl.bool _ | exact Cl.bl _ | exact Cl.bs _ | exact Cl.str _ | exact Cl.nils | exact Cl.nilp | exact Cl.rec _ | exact Cl.bat _ | exact Cl.recsV _ | exact Cl.strsV _ | exact Cl.intsV _ | exact Cl.req _ | exact Cl.rsp _ | exact Cl.reqA _ | exact Cl.rspA _ | exact Cl.batsV _ | exact Cl.getB _ | exact Cl.encA _ | exact Cl.firstA _ | refine ClL.cons ?_ ?_ | refine Cl.tup ?_ | refine Cl.agg ?_ | exact ClO.RO _ _)))

theorem ctMake {t : List UInt8} {part : Int} {l : List Rec} (ht : Tame l) (hl : 1 ≤ l.length ∧ l.length ≤ 100) : CallOK Try.prog 64 [.ptr 1 0, .str t, .int .i64 part, recsV l] (PD 1 0 0 [] .nilp 0) 2 (Out (.tup [rqV 4 1 t part 0 0 (bs (mkB l).enc), .int .i64 0]) [(5, rqO 4 1 t part (bs (mkB l).enc)), (1, pdO 1 0 1 (.ptr 5 0) l.length), (0, .map [])] 6) := by
  refine CallOK.fit (by decide) ?_
  refine callOK Try.call64 Try.func64 Try.ntmps64 rfl ?_
  conv => arg 4; whnf
  refine ⟨fun h' => ?_, fun h' => ?_⟩
  · rw [recs_length] at h'
    simp only [Bool.cond_true_left, Bool.cond_false_right, Bool.or_eq_true, Bool.and_eq_true, Bool.not_eq_true', decide_eq_true_eq, beq_iff_eq, bne_iff_ne, u8s_length, Bool.not_eq_true, gt_iff_lt, ge_iff_le] at h'
    omega
  · (conv => arg 4; whnf); repeat (refine ⟨rfl, ?_⟩; conv => arg 4; whnf)
    refine holds_out [0, 1] (ctSeq (id := 1) (ep := 0) (corr := 0) (count := 0) (t := t) (part := part)) rfl ⟨⟨by decide, rfl⟩, ⟨by decide, rfl⟩, trivial⟩ rfl ?_
    (conv => arg 4; whnf); repeat (refine ⟨rfl, ?_⟩; conv => arg 4; whnf)
    refine callNewA (cloneRecs hl) (ClL.cons (Cl.recsV l) ClL.nil) (ClO.flat l) rfl ?_
    (conv => arg 4; whnf); repeat (refine ⟨rfl, ?_⟩; conv => arg 4; whnf)
    refine tri_loopG (ι := MkI l.length) (fun x => ⟨[(56, .int .i64 x.i), (55, .int .i64 l.length), (10, .ptr 4 0), (8, .ptr 2 0), (0, .ptr 1 0), (1, .str t), (2, .int .i64 part), (3, recsV l)], [(4, .cells [.int .i64 0, .int .i64 (l.length - 1), .int .i64 1, .int .i64 0, .int .i64 0, .vec 3 6 l.length]), (3, .cells (flatA 6 (recsL (numR l x.i)))), (2, .cells [.int .i64 0, .int .i64 0, .str [], .str [], .int .i64 0, .int .i64 0, .int .i64 0, .int .i64 0, .str [], .str [], .int .i64 0, .nils, .nils]), (1, pdO 1 0 0 .nilp 0), (0, .map [])], 5, 100⟩) (fun x => l.length - x.i) ⟨0, Nat.zero_le _⟩ ?_ ?_
    · refine WkG.of rfl rfl ⟨Le.refl _ _, Le.refl _ _, Le.refl _ _, Le.refl _ _, Le.refl _ _, Le.refl _ _, Le.refl _ _, Le.refl _ _, trivial⟩ ⟨⟨_, rfl, ?_⟩, ⟨_, rfl, ?_⟩, ⟨_, rfl, LeO.refl _ _⟩, ⟨_, rfl, LeO.refl _ _⟩, ⟨_, rfl, LeO.refl _ _⟩, trivial⟩ ⟨rfl, rfl, rfl, rfl, rfl, rfl, rfl, Cl.recsV _ _, trivial⟩ ⟨⟨by decide, rfl⟩, ⟨by decide, ClO.flat _ _⟩, ⟨by decide, rfl⟩, ⟨by decide, rfl⟩, ⟨by decide, rfl⟩, trivial⟩
      · have e : IntKind.i64.wrap (((recsL l).length : Int) - 1) = (l.length : Int) - 1 := by rw [recs_length, IntKind.wrap_i64]; omega
        rw [e]
        exact LeO.refl _ _
      · rw [num_zero]
        exact LeO.refl _ _
    rintro ⟨i, hi⟩
    dsimp only
    conv => arg 4; whnf
    refine ⟨fun hlt => ?_, fun hlt => ?_⟩
    · have hlt : i < l.length := by simp at hlt; omega
      obtain ⟨r, hr⟩ : ∃ r, l[i]? = some r := ⟨_, List.getElem?_eq_getElem hlt⟩
      (conv => arg 4; whnf); repeat (refine ⟨rfl, ?_⟩; conv => arg 4; whnf)
      refine ⟨by omega, ?_⟩
      (conv => arg 4; whnf); repeat (refine ⟨rfl, ?_⟩; conv => arg 4; whnf)
      refine ⟨by rw [flat_length, num_length]; show (i : Int).toNat * 6 + 0 < _; omega, ?_⟩
      (conv => arg 4; whnf); repeat (refine ⟨rfl, ?_⟩; conv => arg 4; whnf)
      have es : (flatA 6 (recsL (numR l i))).set ((i : Int).toNat * width 6 + 0) (.int .i64 i) = flatA 6 (recsL (numR l (i + 1))) := by
        have hg : (numR l i)[i]? = some r := by rw [num_get, hr, Option.map_some, if_neg (by omega)]
        rw [← num_step hr, ← flat_set hg]
        rw [show (i : Int).toNat * width 6 + 0 = i * 6 from by show (i : Int).toNat * 6 + 0 = i * 6; omega]
      refine ⟨⟨i + 1, hlt⟩, by show l.length - (i + 1) < l.length - i; omega, WkG.of rfl rfl ⟨Le.of_eq (succ_i64 (by omega)), Le.refl _ _, Le.refl _ _, Le.refl _ _, Le.refl _ _, Le.refl _ _, Le.refl _ _, Le.refl _ _, trivial⟩ ⟨⟨_, rfl, LeO.refl _ _⟩, ⟨_, rfl, ?_⟩, ⟨_, rfl, LeO.refl _ _⟩, ⟨_, rfl, LeO.refl _ _⟩, ⟨_, rfl, LeO.refl _ _⟩, trivial⟩ ⟨rfl, rfl, rfl, rfl, rfl, rfl, rfl, Cl.recsV _ _, trivial⟩ ⟨⟨by decide, rfl⟩, ⟨by decide, ClO.flat _ _⟩, ⟨by decide, rfl⟩, ⟨by decide, rfl⟩, ⟨by decide, rfl⟩, trivial⟩⟩
      show LeL _ ((flatA 6 (recsL (numR l i))).set ((i : Int).toNat * width 6 + 0) (.int .i64 i)) (flatA 6 (recsL (numR l (i + 1))))
      rw [es]
      exact LeL.refl _ _
    · have hlt : i = l.length := by simp at hlt; omega
      subst hlt
      conv => arg 4; whnf
      refine fin_exit ?_
      show holds _ _ _ _
      conv => arg 4; whnf
      have hb : (mkB l).av = .agg [.int .i64 0, .int .i64 (l.length - 1), .int .i64 1, .int .i64 0, .int .i64 0, recsV (numR l l.length)] := rfl
      refine holds_pre (args' := [(mkB l).av]) (h' := [(4, .cells [.int .i64 0, .int .i64 (l.length - 1), .int .i64 1, .int .i64 0, .int .i64 0, .vec 3 6 l.length]), (2, .cells [.int .i64 0, .int .i64 0, .str [], .str [], .int .i64 0, .int .i64 0, .int .i64 0, .int .i64 0, .str [], .str [], .int .i64 0, .nils, .nils]), (1, pdO 1 0 0 .nilp 0), (0, .map [])]) (nx' := 5)
        (freezeP (id := 3) (k := 6) (m := l.length) (l := flatA 6 (recsL (numR l l.length))) (els := recsL (numR l l.length)) rfl (fun F V us hr ho => by
          obtain ⟨xs, q1, q2⟩ := unflat _ us hr ho
          exact ⟨xs, by rw [q1, num_length], q2⟩) (fun t => by
          cases t with
          | zero => exact .inr ⟨[.int .i64 0, .int .i64 (l.length - 1), .int .i64 1, .int .i64 0, .int .i64 0], [], rfl, rfl⟩
          | succ t => exact .inl rfl) (fun j o hj => ?_)) rfl ?_
      · match j, hj with
        | 0, hj => exact ⟨by decide, hj⟩
        | 1, hj => exact ⟨by decide, hj⟩
        | 2, hj => exact ⟨by decide, hj⟩
        | 3, hj => exact absurd (show (none : Option AObj) = some o from hj) (by simp)
        | 4, hj => exact ⟨by decide, hj⟩
        | j + 5, hj => exact absurd (show (none : Option AObj) = some o from hj) (by simp)
      refine call0 (batEnc (b := mkB l) (by rw [mkB_length]; omega)) (by (repeat' (first | with_reducible assumption | exact ClL.nil | exact Cl.int _ _ | exact Cl.bool _ | exact Cl.bl _ | exact Cl.bs _ | exact Cl.str _ | exact Cl.nils | exact Cl.nilp | exact Cl.rec _ | exact Cl.bat _ | exact Cl.recsV _ | exact Cl.strsV _ | exact Cl.intsV _ | exact Cl.req _ | exact Cl.rsp _ | exact Cl.reqA _ | exact Cl.rspA _ | exact Cl.batsV _ | exact Cl.getB _ | exact Cl.encA _ | exact Cl.firstA _ | refine ClL.cons ?_ ?_ | refine Cl.tup ?_ | refine Cl.agg ?_ | exact ClO.RO _ _))) (by (repeat' (first | with_reducible assumption | exact ClL.nil | exact Cl.int _ _ | exact Cl.bool _ | exact Cl.bl _ | exact Cl.bs _ | exact Cl.str _ | exact Cl.nils | exact Cl.nilp | exact Cl.rec _ | exact Cl.bat _ | exact Cl.recsV _ | exact Cl.strsV _ | exact Cl.intsV _ | exact Cl.req _ | exact Cl.rsp _ | exact Cl.reqA _ | exact Cl.rspA _ | exact Cl.batsV _ | exact Cl.getB _ | exact Cl.encA _ | exact Cl.firstA _ | refine ClL.cons ?_ ?_ | refine Cl.tup ?_ | refine Cl.agg ?_ | exact ClO.RO _ _))) ?_
      rw [encA_yes (mkB_chk ht hl)]
      (conv => arg 4; whnf); repeat (refine ⟨rfl, ?_⟩; conv => arg 4; whnf)
      refine ⟨fun h' => absurd h' (by decide), fun _ => ?_⟩
      (conv => arg 4; whnf); repeat (refine ⟨rfl, ?_⟩; conv => arg 4; whnf)
      have hlen : (mkB l).enc.length ≤ 65536 := (chk_fine (mkB_chk ht hl)).2.1
      refine call0 (ctOwn (kind := 4) (corr := 1) (t := t) (part := part) (off := 0) (max := 0) (d := (mkB l).enc) (by omega)) (ClL.cons (Cl.rqV (Cl.bs _)) ClL.nil) (Cl.rqV (Cl.bs _)) ?_
      (conv => arg 4; whnf); repeat (refine ⟨rfl, ?_⟩; conv => arg 4; whnf)
      refine ⟨by decide, Le.refl _ _, ⟨⟨_, rfl, LeO.refl _ _⟩, ⟨_, rfl, ?_⟩, ⟨_, rfl, LeO.refl _ _⟩, trivial⟩, Cl.tup (ClL.cons (Cl.rqV (Cl.bs _)) (ClL.cons (Cl.int _ _) ClL.nil)) _, ⟨⟨by decide, ClO.rq (Cl.bs _) _⟩, ⟨by decide, rfl⟩, ⟨by decide, rfl⟩, trivial⟩⟩
      rw [recs_length]
      exact LeO.refl _ _
abbrev PQ (t : List UInt8) (part : Int) (d : List UInt8) (count : Int) : Heap := [(2, rqO 4 1 t part (bs d)), (1, pdO 1 0 1 (.ptr 2 0) count), (0, .map [])]
theorem ctWait {t t' : List UInt8} {part part' count : Int} {d : List UInt8} {l : List Rec} : CallOK Try.prog 64 [.ptr 1 0, .str t', .int .i64 part', recsV l] (PQ t part d count) 3 (Out (.tup [rqV 0 0 [] 0 0 0 .nils, .int .i64 14]) (PQ t part d count) 3) := by
  refine CallOK.fit (by decide) ?_
  refine callOK Try.call64 Try.func64 Try.ntmps64 rfl ?_
  conv => arg 4; whnf
  exact ⟨by decide, Le.refl _ _, ⟨⟨_, rfl, LeO.refl _ _⟩, ⟨_, rfl, LeO.refl _ _⟩, ⟨_, rfl, LeO.refl _ _⟩, trivial⟩, Cl.tup (ClL.cons (Cl.rqV Cl.nils) (ClL.cons (Cl.int _ _) ClL.nil)) _, ⟨⟨by decide, ClO.rq (Cl.bs _) _⟩, ⟨by decide, rfl⟩, ⟨by decide, rfl⟩, trivial⟩⟩
theorem ctAgain : CallOK Try.prog 96 [.int .i64 0] [] 0 (Out (.bool false) [] 0) := by
  refine CallOK.fit (by decide) ?_
  refine callOK Try.call96 Try.func96 Try.ntmps96 rfl ?_
  conv => arg 4; whnf
  exact ⟨by decide, Le.of_eq (congrArg AV.bool (by decide)), trivial, (by (repeat' (first | with_reducible assumption | exact ClL.nil | exact Cl.int _ _ | exact Cl.bool _ | exact Cl.bl _ | exact Cl.bs _ | exact Cl.str _ | exact Cl.nils | exact Cl.nilp | exact Cl.rec _ | exact Cl.bat _ | exact Cl.recsV _ | exact Cl.strsV _ | exact Cl.intsV _ | exact Cl.req _ | exact Cl.rsp _ | exact Cl.reqA _ | exact Cl.rspA _ | exact Cl.batsV _ | exact Cl.getB _ | exact Cl.encA _ | exact Cl.firstA _ | refine ClL.cons ?_ ?_ | refine Cl.tup ?_ | refine Cl.agg ?_ | exact ClO.RO _ _)) : Cl _) _, trivial⟩
theorem askS1 (v : AV) : mapAsk Try.prog 149 [(slA [116] 0, v)] (slA [116] 0) := ⟨⟨by decide +kernel, by decide +kernel⟩, rfl, fun e he => by
  simp only [List.mem_singleton] at he
  subst he
  rfl⟩
theorem ctDone {count off : Int} {d : List UInt8} (hc : 0 ≤ count ∧ count ≤ 100) : CallOK Try.prog 67 [.ptr 1 0, rsV 1 0 off .nils] (PQ [116] 0 d count) 3 (Out (.tup [.int .i64 off, .int .i64 0]) [(2, rqO 4 1 [116] 0 (bs d)), (1, pdO 1 0 1 .nilp count), (0, .map [(slA [116] 0, .int .i64 count)])] 3) := by
  refine CallOK.fit (by decide) ?_
  refine callOK Try.call67 Try.func67 Try.ntmps67 rfl ?_
  conv => arg 4; whnf
  refine ⟨fun h' => absurd h' (by decide), fun _ => ?_⟩
  (conv => arg 4; whnf); repeat (refine ⟨rfl, ?_⟩; conv => arg 4; whnf)
  refine call0 ctAgain (by (repeat' (first | with_reducible assumption | exact ClL.nil | exact Cl.int _ _ | exact Cl.bool _ | exact Cl.bl _ | exact Cl.bs _ | exact Cl.str _ | exact Cl.nils | exact Cl.nilp | exact Cl.rec _ | exact Cl.bat _ | exact Cl.recsV _ | exact Cl.strsV _ | exact Cl.intsV _ | exact Cl.req _ | exact Cl.rsp _ | exact Cl.reqA _ | exact Cl.rspA _ | exact Cl.batsV _ | exact Cl.getB _ | exact Cl.encA _ | exact Cl.firstA _ | refine ClL.cons ?_ ?_ | refine Cl.tup ?_ | refine Cl.agg ?_ | exact ClO.RO _ _))) (by (repeat' (first | with_reducible assumption | exact ClL.nil | exact Cl.int _ _ | exact Cl.bool _ | exact Cl.bl _ | exact Cl.bs _ | exact Cl.str _ | exact Cl.nils | exact Cl.nilp | exact Cl.rec _ | exact Cl.bat _ | exact Cl.recsV _ | exact Cl.strsV _ | exact Cl.intsV _ | exact Cl.req _ | exact Cl.rsp _ | exact Cl.reqA _ | exact Cl.rspA _ | exact Cl.batsV _ | exact Cl.getB _ | exact Cl.encA _ | exact Cl.firstA _ | refine ClL.cons ?_ ?_ | refine Cl.tup ?_ | refine Cl.agg ?_ | exact ClO.RO _ _))) ?_
  (conv => arg 4; whnf); repeat (refine ⟨rfl, ?_⟩; conv => arg 4; whnf)
  refine ⟨fun h' => absurd h' (by decide), fun _ => ?_⟩
  (conv => arg 4; whnf); repeat (refine ⟨rfl, ?_⟩; conv => arg 4; whnf)
  refine ⟨fun h' => absurd h' (by decide), fun _ => ?_⟩
  (conv => arg 4; whnf); repeat (refine ⟨rfl, ?_⟩; conv => arg 4; whnf)
  refine ⟨.int .i64 0, ⟨by decide, rfl⟩, ?_⟩
  conv => arg 4; whnf
  refine ⟨askS0 [116] 0, ?_⟩
  (conv => arg 4; whnf); repeat (refine ⟨rfl, ?_⟩; conv => arg 4; whnf)
  refine ⟨askS0 [116] 0, ?_⟩
  conv => arg 4; whnf
  refine ⟨.int .i64 0, ⟨by decide, rfl⟩, ?_⟩
  conv => arg 4; whnf
  intro n
  conv => arg 4; whnf
  refine ⟨⟨rfl, fun _ => askS1 _⟩, ?_⟩
  conv => arg 4; whnf
  refine ⟨rfl, ?_⟩
  (conv => arg 4; whnf); repeat (refine ⟨rfl, ?_⟩; conv => arg 4; whnf)
  have ec : IntKind.i64.wrap (0 + count) = count := by rw [IntKind.wrap_i64]; omega
  refine ⟨by decide, Le.refl _ _, ⟨⟨_, rfl, LeO.refl _ _⟩, ⟨_, rfl, LeO.refl _ _⟩, ⟨_, rfl, ?_⟩, trivial⟩, (by (repeat' (first | with_reducible assumption | exact ClL.nil | exact Cl.int _ _ | exact Cl.bool _ | exact Cl.bl _ | exact Cl.bs _ | exact Cl.str _ | exact Cl.nils | exact Cl.nilp | exact Cl.rec _ | exact Cl.bat _ | exact Cl.recsV _ | exact Cl.strsV _ | exact Cl.intsV _ | exact Cl.req _ | exact Cl.rsp _ | exact Cl.reqA _ | exact Cl.rspA _ | exact Cl.batsV _ | exact Cl.getB _ | exact Cl.encA _ | exact Cl.firstA _ | refine ClL.cons ?_ ?_ | refine Cl.tup ?_ | refine Cl.agg ?_ | exact ClO.RO _ _)) : Cl _) _, ⟨⟨by decide, ClO.rq (Cl.bs _) _⟩, ⟨by decide, rfl⟩, ⟨by decide, rfl⟩, trivial⟩⟩
  show LeO _ (.map [(slA [116] 0, .int .i64 (IntKind.i64.wrap (0 + count)))]) (.map [(slA [116] 0, .int .i64 count)])
  rw [ec]
  exact LeO.refl _ _
end Go.Proofs.Ythclmkhkchbpiaa.Ct

namespace Go.Proofs.Ythclmkhkchbpiaa.Ct
set_option maxRecDepth 100000
set_option maxHeartbeats 80000000
open Go.Sym

theorem callG {P : Program} {Q : AExit → St → Prop} {K : AV → Heap → Nat → Prop} {f : FuncId} {args args0 : List AV} {h h0 h1 h' : Heap} {nx m1 : Nat} {a1 a1' : AV} {k : AV → Heap → Nat → R} (names : List Nat)
    (c : CallOK P f args0 h0 names.length (Out a1 h1 m1)) (hok : okNames nx names = true) (hsub : Sub nx names h h0) (hargs : args = renL (rho nx names) args0) (ha : ren (rho nx names) a1 = a1') (hm : mergeH nx names h h1 = h')
    (hk : holds P Q K (k a1' h' (nx + (m1 - names.length)))) : holds P Q K (.call f args h nx k) :=
  CallOK.frame (names := names) c hok hsub hargs fun a0 h0' m' ⟨e1, e2, e3⟩ => by
    subst e1; subst e2; subst e3
    rw [ha, hm]
    exact hk

theorem mrgMake {d : List UInt8} {n : Int} {o : AObj} : mergeH 3 [0, 1] [(2, o), (1, pdO 1 0 0 .nilp 0), (0, .map [])] [(5, rqO 4 1 [116] 0 (bs d)), (1, pdO 1 0 1 (.ptr 5 0) n), (0, .map [])] = [(6, rqO 4 1 [116] 0 (bs d)), (2, o), (1, pdO 1 0 1 (.ptr 6 0) n), (0, .map [])] := by
  show [(6, renO (rho 3 [0, 1]) (rqO 4 1 [116] 0 (bs d))), (2, o), (1, pdO 1 0 1 (.ptr 6 0) n), (0, .map [])] = _
  rw [ClO.rq (Cl.bs d)]
theorem mrgWait {d : List UInt8} {n : Int} {o o7 : AObj} : mergeH 8 [0, 1, 6] [(7, o7), (6, rqO 4 1 [116] 0 (bs d)), (2, o), (1, pdO 1 0 1 (.ptr 6 0) n), (0, .map [])] (PQ [116] 0 d n) = [(7, o7), (6, rqO 4 1 [116] 0 (bs d)), (2, o), (1, pdO 1 0 1 (.ptr 6 0) n), (0, .map [])] := by
  show [(7, o7), (6, renO (rho 8 [0, 1, 6]) (rqO 4 1 [116] 0 (bs d))), (2, o), (1, pdO 1 0 1 (.ptr 6 0) n), (0, .map [])] = _
  rw [ClO.rq (Cl.bs d)]
theorem mrgDone {d : List UInt8} {n : Int} {o o7 o8 : AObj} : mergeH 9 [0, 1, 6] [(8, o8), (7, o7), (6, rqO 4 1 [116] 0 (bs d)), (2, o), (1, pdO 1 0 1 (.ptr 6 0) n), (0, .map [])] [(2, rqO 4 1 [116] 0 (bs d)), (1, pdO 1 0 1 .nilp n), (0, .map [(slA [116] 0, .int .i64 n)])] = [(8, o8), (7, o7), (6, rqO 4 1 [116] 0 (bs d)), (2, o), (1, pdO 1 0 1 .nilp n), (0, .map [(slA [116] 0, .int .i64 n)])] := by
  show [(8, o8), (7, o7), (6, renO (rho 9 [0, 1, 6]) (rqO 4 1 [116] 0 (bs d))), (2, o), (1, pdO 1 0 1 .nilp n), (0, .map [(slA [116] 0, .int .i64 n)])] = _
  rw [ClO.rq (Cl.bs d)]
theorem subDone {d : List UInt8} {n : Int} {o o7 o8 : AObj} : Sub 9 [0, 1, 6] [(8, o8), (7, o7), (6, rqO 4 1 [116] 0 (bs d)), (2, o), (1, pdO 1 0 1 (.ptr 6 0) n), (0, .map [])] (PQ [116] 0 d n) :=
  ⟨⟨by decide, by rw [ClO.rq (Cl.bs d)]; rfl⟩, ⟨by decide, rfl⟩, ⟨by decide, rfl⟩, trivial⟩
theorem subPQ {d : List UInt8} {n : Int} {o o7 : AObj} : Sub 8 [0, 1, 6] [(7, o7), (6, rqO 4 1 [116] 0 (bs d)), (2, o), (1, pdO 1 0 1 (.ptr 6 0) n), (0, .map [])] (PQ [116] 0 d n) :=
  ⟨⟨by decide, by rw [ClO.rq (Cl.bs d)]; rfl⟩, ⟨by decide, rfl⟩, ⟨by decide, rfl⟩, trivial⟩

theorem ctSeq1 {id ep corr count n : Int} : CallOK Try.prog 68 [.ptr 1 0, .str [116], .int .i64 0] (PD id ep corr [(slA [116] 0, .int .i64 n)] .nilp count) 2 (Out (.int .i64 n) (PD id ep corr [(slA [116] 0, .int .i64 n)] .nilp count) 2) := by
  refine CallOK.fit (by decide) ?_
  refine callOK Try.call68 Try.func68 Try.ntmps68 rfl ?_
  conv => arg 4; whnf
  refine ⟨.int .i64 n, ⟨by decide, rfl⟩, ?_⟩
  conv => arg 4; whnf
  refine ⟨askS1 _, ?_⟩
  (conv => arg 4; whnf); repeat (refine ⟨rfl, ?_⟩; conv => arg 4; whnf)
  exact ⟨by decide, Le.refl _ _, ⟨⟨_, rfl, LeO.refl _ _⟩, ⟨_, rfl, LeO.refl _ _⟩, trivial⟩, (by (repeat' (first | with_reducible assumption | exact ClL.nil | exact Cl.int _ _ | exact Cl.bool _ | exact Cl.bl _ | exact Cl.bs _ | exact Cl.str _ | exact Cl.nils | exact Cl.nilp | exact Cl.rec _ | exact Cl.bat _ | exact Cl.recsV _ | exact Cl.strsV _ | exact Cl.intsV _ | exact Cl.req _ | exact Cl.rsp _ | exact Cl.reqA _ | exact Cl.rspA _ | exact Cl.batsV _ | exact Cl.getB _ | exact Cl.encA _ | exact Cl.firstA _ | refine ClL.cons ?_ ?_ | refine Cl.tup ?_ | refine Cl.agg ?_ | exact ClO.RO _ _)) : Cl _) _, ⟨⟨by decide, rfl⟩, ⟨by decide, rfl⟩, trivial⟩⟩

theorem awake24 : CallOK Try.prog 58 [] [] 0 (Out (.bool true) [] 0) := by
  refine CallOK.fit (by decide) ?_
  refine callOK Try.call58 Try.func58 Try.ntmps58 rfl ?_
  conv => arg 4; whnf
  refine callG [] (ctNewProducer (id := 1) (ep := 0) (by decide)) rfl trivial rfl rfl rfl ?_
  (conv => arg 4; whnf); repeat (refine ⟨rfl, ?_⟩; conv => arg 4; whnf)
  refine callG [] (ctNewReader (t := [116]) (part := 0) (off := 5) (by decide)) rfl trivial rfl rfl rfl ?_
  (conv => arg 4; whnf); repeat (refine ⟨rfl, ?_⟩; conv => arg 4; whnf)
  refine call0 ctNewProducerNo (by (repeat' (first | with_reducible assumption | exact ClL.nil | exact Cl.int _ _ | exact Cl.bool _ | exact Cl.bl _ | exact Cl.bs _ | exact Cl.str _ | exact Cl.nils | exact Cl.nilp | exact Cl.rec _ | exact Cl.bat _ | exact Cl.recsV _ | exact Cl.strsV _ | exact Cl.intsV _ | exact Cl.req _ | exact Cl.rsp _ | exact Cl.reqA _ | exact Cl.rspA _ | exact Cl.batsV _ | exact Cl.getB _ | exact Cl.encA _ | exact Cl.firstA _ | refine ClL.cons ?_ ?_ | refine Cl.tup ?_ | refine Cl.agg ?_ | exact ClO.RO _ _))) (by (repeat' (first | with_reducible assumption | exact ClL.nil | exact Cl.int _ _ | exact Cl.bool _ | exact Cl.bl _ | exact Cl.bs _ | exact Cl.str _ | exact Cl.nils | exact Cl.nilp | exact Cl.rec _ | exact Cl.bat _ | exact Cl.recsV _ | exact Cl.strsV _ | exact Cl.intsV _ | exact Cl.req _ | exact Cl.rsp _ | exact Cl.reqA _ | exact Cl.rspA _ | exact Cl.batsV _ | exact Cl.getB _ | exact Cl.encA _ | exact Cl.firstA _ | refine ClL.cons ?_ ?_ | refine Cl.tup ?_ | refine Cl.agg ?_ | exact ClO.RO _ _))) ?_
  (conv => arg 4; whnf); repeat (refine ⟨rfl, ?_⟩; conv => arg 4; whnf)
  refine ⟨fun h' => absurd h' (by decide), fun _ => ?_⟩
  (conv => arg 4; whnf); repeat (refine ⟨rfl, ?_⟩; conv => arg 4; whnf)
  refine call0E (ctRecords (n := 2) (seed := 1) (by decide) (by unfold I64; omega) fun i _ => by unfold I64; omega) (by (repeat' (first | with_reducible assumption | exact ClL.nil | exact Cl.int _ _ | exact Cl.bool _ | exact Cl.bl _ | exact Cl.bs _ | exact Cl.str _ | exact Cl.nils | exact Cl.nilp | exact Cl.rec _ | exact Cl.bat _ | exact Cl.recsV _ | exact Cl.strsV _ | exact Cl.intsV _ | exact Cl.req _ | exact Cl.rsp _ | exact Cl.reqA _ | exact Cl.rspA _ | exact Cl.batsV _ | exact Cl.getB _ | exact Cl.encA _ | exact Cl.firstA _ | refine ClL.cons ?_ ?_ | refine Cl.tup ?_ | refine Cl.agg ?_ | exact ClO.RO _ _))) (fun x => Cl.recsV _) fun l hl => ?_
  (conv => arg 4; whnf); repeat (refine ⟨rfl, ?_⟩; conv => arg 4; whnf)
  refine callG [0, 1] (ctMake (t := [116]) (part := 0) (l := l) hl.2 (by omega)) rfl ⟨⟨by decide, rfl⟩, ⟨by decide, rfl⟩, trivial⟩ (by simp only [renL, ren, ren_recs, renP]; rfl) (Cl.tup (ClL.cons (Cl.rqV (Cl.bs _)) (ClL.cons (Cl.int _ _) ClL.nil)) _) mrgMake ?_
  (conv => arg 4; whnf); repeat (refine ⟨rfl, ?_⟩; conv => arg 4; whnf)
  refine call0E (ctRecords (n := 1) (seed := 1) (by decide) (by unfold I64; omega) fun i _ => by unfold I64; omega) (by (repeat' (first | with_reducible assumption | exact ClL.nil | exact Cl.int _ _ | exact Cl.bool _ | exact Cl.bl _ | exact Cl.bs _ | exact Cl.str _ | exact Cl.nils | exact Cl.nilp | exact Cl.rec _ | exact Cl.bat _ | exact Cl.recsV _ | exact Cl.strsV _ | exact Cl.intsV _ | exact Cl.req _ | exact Cl.rsp _ | exact Cl.reqA _ | exact Cl.rspA _ | exact Cl.batsV _ | exact Cl.getB _ | exact Cl.encA _ | exact Cl.firstA _ | refine ClL.cons ?_ ?_ | refine Cl.tup ?_ | refine Cl.agg ?_ | exact ClO.RO _ _))) (fun x => Cl.recsV _) fun l2 hl2 => ?_
  (conv => arg 4; whnf); repeat (refine ⟨rfl, ?_⟩; conv => arg 4; whnf)
  refine callG [0, 1, 6] (ctWait (t := [116]) (part := 0) (t' := [116]) (part' := 0) (count := l.length) (d := (mkB l).enc) (l := l2)) rfl subPQ (by simp only [renL, ren, ren_recs, renP]; rfl) (Cl.tup (ClL.cons (Cl.rqV Cl.nils) (ClL.cons (Cl.int _ _) ClL.nil)) _) mrgWait ?_
  (conv => arg 4; whnf); repeat (refine ⟨rfl, ?_⟩; conv => arg 4; whnf)
  refine callG [0, 1, 6] (ctDone (count := l.length) (off := 9) (d := (mkB l).enc) (by omega)) rfl subDone rfl rfl mrgDone ?_
  (conv => arg 4; whnf); repeat (refine ⟨rfl, ?_⟩; conv => arg 4; whnf)
  refine callG [2] (ctAsk (t := [116]) (part := 0) (off := 5) (corr := 0) (most := 100) (by decide)) rfl ⟨⟨by decide, rfl⟩, trivial⟩ rfl (Cl.rqV Cl.nils _) rfl ?_
  (conv => arg 4; whnf); repeat (refine ⟨rfl, ?_⟩; conv => arg 4; whnf)
  refine ⟨fun _ => ?_, fun h' => absurd h' (by decide)⟩
  (conv => arg 4; whnf); repeat (refine ⟨rfl, ?_⟩; conv => arg 4; whnf)
  refine callG [0, 1] (ctSeq1 (id := 1) (ep := 0) (corr := 1) (count := l.length) (n := l.length)) rfl ⟨⟨by decide, rfl⟩, ⟨by decide, rfl⟩, trivial⟩ rfl rfl rfl ?_
  (conv => arg 4; whnf); repeat (refine ⟨rfl, ?_⟩; conv => arg 4; whnf)
  exact ⟨by decide, Le.of_eq (congrArg AV.bool (by rw [hl.1]; rfl)), trivial, (Cl.bool _) _, trivial⟩

abbrev Tru (a : AV) (_ : Heap) (_ : Nat) : Prop := a = .bool true ∨ a = .bl true
theorem lawNothing {n : Int} (hn : I64 n) : CallOK Try.prog 16 [.int .i64 n] [] 0 Tru := by
  refine callOK Try.call16 Try.func16 Try.ntmps16 rfl ?_
  conv => arg 4; whnf
  refine call0E (ctRecords (n := 1) (seed := n) (by decide) hn fun i h => by have : i = 0 := by omega
                                                                             subst this; simpa using hn) (by (repeat' (first | with_reducible assumption | exact ClL.nil | exact Cl.int _ _ | exact Cl.bool _ | exact Cl.bl _ | exact Cl.bs _ | exact Cl.str _ | exact Cl.nils | exact Cl.nilp | exact Cl.rec _ | exact Cl.bat _ | exact Cl.recsV _ | exact Cl.strsV _ | exact Cl.intsV _ | exact Cl.req _ | exact Cl.rsp _ | exact Cl.reqA _ | exact Cl.rspA _ | exact Cl.batsV _ | exact Cl.getB _ | exact Cl.encA _ | exact Cl.firstA _ | refine ClL.cons ?_ ?_ | refine Cl.tup ?_ | refine Cl.agg ?_ | exact ClO.RO _ _))) (fun x => Cl.recsV _) fun l hl => ?_
  (conv => arg 4; whnf); repeat (refine ⟨rfl, ?_⟩; conv => arg 4; whnf)
  refine call0 (nilMake (t := [116]) (part := 0) (l := l)) (ClL.cons Cl.nilp (ClL.cons (Cl.str _) (ClL.cons (Cl.int _ _) (ClL.cons (Cl.recsV l) ClL.nil)))) (Cl.tup (ClL.cons (Cl.rqV Cl.nils) (ClL.cons (Cl.int _ _) ClL.nil))) ?_
  (conv => arg 4; whnf); repeat (refine ⟨rfl, ?_⟩; conv => arg 4; whnf)
  refine call0 nilRetry (by (repeat' (first | with_reducible assumption | exact ClL.nil | exact Cl.int _ _ | exact Cl.bool _ | exact Cl.bl _ | exact Cl.bs _ | exact Cl.str _ | exact Cl.nils | exact Cl.nilp | exact Cl.rec _ | exact Cl.bat _ | exact Cl.recsV _ | exact Cl.strsV _ | exact Cl.intsV _ | exact Cl.req _ | exact Cl.rsp _ | exact Cl.reqA _ | exact Cl.rspA _ | exact Cl.batsV _ | exact Cl.getB _ | exact Cl.encA _ | exact Cl.firstA _ | refine ClL.cons ?_ ?_ | refine Cl.tup ?_ | refine Cl.agg ?_ | exact ClO.RO _ _))) (Cl.tup (ClL.cons (Cl.rqV Cl.nils) (ClL.cons (Cl.bl _) ClL.nil))) ?_
  (conv => arg 4; whnf); repeat (refine ⟨rfl, ?_⟩; conv => arg 4; whnf)
  refine call0 (nilDone (c := 0) (e := 0) (o := 0)) (ClL.cons Cl.nilp (ClL.cons (Cl.rsV Cl.nils) ClL.nil)) (by (repeat' (first | with_reducible assumption | exact ClL.nil | exact Cl.int _ _ | exact Cl.bool _ | exact Cl.bl _ | exact Cl.bs _ | exact Cl.str _ | exact Cl.nils | exact Cl.nilp | exact Cl.rec _ | exact Cl.bat _ | exact Cl.recsV _ | exact Cl.strsV _ | exact Cl.intsV _ | exact Cl.req _ | exact Cl.rsp _ | exact Cl.reqA _ | exact Cl.rspA _ | exact Cl.batsV _ | exact Cl.getB _ | exact Cl.encA _ | exact Cl.firstA _ | refine ClL.cons ?_ ?_ | refine Cl.tup ?_ | refine Cl.agg ?_ | exact ClO.RO _ _))) ?_
  (conv => arg 4; whnf); repeat (refine ⟨rfl, ?_⟩; conv => arg 4; whnf)
  refine call0 (nilGot (c := 0) (e := 0) (o := 0)) (ClL.cons Cl.nilp (ClL.cons (Cl.rsV Cl.nils) ClL.nil)) (Cl.tup (ClL.cons (Cl.recsV _) (ClL.cons (Cl.int _ _) ClL.nil))) ?_
  (conv => arg 4; whnf); repeat (refine ⟨rfl, ?_⟩; conv => arg 4; whnf)
  refine ⟨fun _ => ?_, fun h' => absurd h' (by decide)⟩
  (conv => arg 4; whnf); repeat (refine ⟨rfl, ?_⟩; conv => arg 4; whnf)
  refine call0 nilSeq (by (repeat' (first | with_reducible assumption | exact ClL.nil | exact Cl.int _ _ | exact Cl.bool _ | exact Cl.bl _ | exact Cl.bs _ | exact Cl.str _ | exact Cl.nils | exact Cl.nilp | exact Cl.rec _ | exact Cl.bat _ | exact Cl.recsV _ | exact Cl.strsV _ | exact Cl.intsV _ | exact Cl.req _ | exact Cl.rsp _ | exact Cl.reqA _ | exact Cl.rspA _ | exact Cl.batsV _ | exact Cl.getB _ | exact Cl.encA _ | exact Cl.firstA _ | refine ClL.cons ?_ ?_ | refine Cl.tup ?_ | refine Cl.agg ?_ | exact ClO.RO _ _))) (by (repeat' (first | with_reducible assumption | exact ClL.nil | exact Cl.int _ _ | exact Cl.bool _ | exact Cl.bl _ | exact Cl.bs _ | exact Cl.str _ | exact Cl.nils | exact Cl.nilp | exact Cl.rec _ | exact Cl.bat _ | exact Cl.recsV _ | exact Cl.strsV _ | exact Cl.intsV _ | exact Cl.req _ | exact Cl.rsp _ | exact Cl.reqA _ | exact Cl.rspA _ | exact Cl.batsV _ | exact Cl.getB _ | exact Cl.encA _ | exact Cl.firstA _ | refine ClL.cons ?_ ?_ | refine Cl.tup ?_ | refine Cl.agg ?_ | exact ClO.RO _ _))) ?_
  (conv => arg 4; whnf); repeat (refine ⟨rfl, ?_⟩; conv => arg 4; whnf)
  refine ⟨fun _ => ?_, fun h' => absurd h' (by decide)⟩
  (conv => arg 4; whnf); repeat (refine ⟨rfl, ?_⟩; conv => arg 4; whnf)
  refine call0 nilOffset (by (repeat' (first | with_reducible assumption | exact ClL.nil | exact Cl.int _ _ | exact Cl.bool _ | exact Cl.bl _ | exact Cl.bs _ | exact Cl.str _ | exact Cl.nils | exact Cl.nilp | exact Cl.rec _ | exact Cl.bat _ | exact Cl.recsV _ | exact Cl.strsV _ | exact Cl.intsV _ | exact Cl.req _ | exact Cl.rsp _ | exact Cl.reqA _ | exact Cl.rspA _ | exact Cl.batsV _ | exact Cl.getB _ | exact Cl.encA _ | exact Cl.firstA _ | refine ClL.cons ?_ ?_ | refine Cl.tup ?_ | refine Cl.agg ?_ | exact ClO.RO _ _))) (by (repeat' (first | with_reducible assumption | exact ClL.nil | exact Cl.int _ _ | exact Cl.bool _ | exact Cl.bl _ | exact Cl.bs _ | exact Cl.str _ | exact Cl.nils | exact Cl.nilp | exact Cl.rec _ | exact Cl.bat _ | exact Cl.recsV _ | exact Cl.strsV _ | exact Cl.intsV _ | exact Cl.req _ | exact Cl.rsp _ | exact Cl.reqA _ | exact Cl.rspA _ | exact Cl.batsV _ | exact Cl.getB _ | exact Cl.encA _ | exact Cl.firstA _ | refine ClL.cons ?_ ?_ | refine Cl.tup ?_ | refine Cl.agg ?_ | exact ClO.RO _ _))) ?_
  (conv => arg 4; whnf); repeat (refine ⟨rfl, ?_⟩; conv => arg 4; whnf)
  refine ⟨fun _ => ?_, fun h' => absurd h' (by decide)⟩
  (conv => arg 4; whnf); repeat (refine ⟨rfl, ?_⟩; conv => arg 4; whnf)
  refine call0 nilAsk (by (repeat' (first | with_reducible assumption | exact ClL.nil | exact Cl.int _ _ | exact Cl.bool _ | exact Cl.bl _ | exact Cl.bs _ | exact Cl.str _ | exact Cl.nils | exact Cl.nilp | exact Cl.rec _ | exact Cl.bat _ | exact Cl.recsV _ | exact Cl.strsV _ | exact Cl.intsV _ | exact Cl.req _ | exact Cl.rsp _ | exact Cl.reqA _ | exact Cl.rspA _ | exact Cl.batsV _ | exact Cl.getB _ | exact Cl.encA _ | exact Cl.firstA _ | refine ClL.cons ?_ ?_ | refine Cl.tup ?_ | refine Cl.agg ?_ | exact ClO.RO _ _))) (Cl.rqV Cl.nils) ?_
  (conv => arg 4; whnf); repeat (refine ⟨rfl, ?_⟩; conv => arg 4; whnf)
  refine ⟨fun _ => ?_, fun h' => absurd h' (by decide)⟩
  (conv => arg 4; whnf); repeat (refine ⟨rfl, ?_⟩; conv => arg 4; whnf)
  refine call0 awake24 (by (repeat' (first | with_reducible assumption | exact ClL.nil | exact Cl.int _ _ | exact Cl.bool _ | exact Cl.bl _ | exact Cl.bs _ | exact Cl.str _ | exact Cl.nils | exact Cl.nilp | exact Cl.rec _ | exact Cl.bat _ | exact Cl.recsV _ | exact Cl.strsV _ | exact Cl.intsV _ | exact Cl.req _ | exact Cl.rsp _ | exact Cl.reqA _ | exact Cl.rspA _ | exact Cl.batsV _ | exact Cl.getB _ | exact Cl.encA _ | exact Cl.firstA _ | refine ClL.cons ?_ ?_ | refine Cl.tup ?_ | refine Cl.agg ?_ | exact ClO.RO _ _))) (by (repeat' (first | with_reducible assumption | exact ClL.nil | exact Cl.int _ _ | exact Cl.bool _ | exact Cl.bl _ | exact Cl.bs _ | exact Cl.str _ | exact Cl.nils | exact Cl.nilp | exact Cl.rec _ | exact Cl.bat _ | exact Cl.recsV _ | exact Cl.strsV _ | exact Cl.intsV _ | exact Cl.req _ | exact Cl.rsp _ | exact Cl.reqA _ | exact Cl.rspA _ | exact Cl.batsV _ | exact Cl.getB _ | exact Cl.encA _ | exact Cl.firstA _ | refine ClL.cons ?_ ?_ | refine Cl.tup ?_ | refine Cl.agg ?_ | exact ClO.RO _ _))) ?_
  (conv => arg 4; whnf); repeat (refine ⟨rfl, ?_⟩; conv => arg 4; whnf)
  exact .inl rfl
end Go.Proofs.Ythclmkhkchbpiaa.Ct

namespace Go.Proofs.Ythclmkhkchbpiaa.Ct
set_option maxRecDepth 100000
set_option maxHeartbeats 80000000
open Go.Sym

theorem decB_none {p : List UInt8} (h : decE p ≠ 0) : (decB p).recs = [] := by
  have hb : (decB p) = Bat.none := by
    unfold decB
    split
    · rename_i h1
      by_cases h2 : firstE p = 0
      · exact absurd (show decE p = 0 by rw [decE, if_pos ⟨h2, h1⟩]) h
      · exact (first_no h2).2.1
    · rfl
  rw [hb]; rfl

/-- Offsets rise. -/
theorem recsE_rise {b : Bat} : ∀ {l : List Rec} {prev : Int}, recsE b l prev = 0 → ∀ r ∈ l, prev < r.off
  | [], _, _ => fun r hr => by cases hr
  | x :: l, prev, h => fun r hr => by
    unfold recsE at h
    by_cases h0 : recE x b.base b.last prev = 0
    · rw [if_neg (by simp [h0])] at h
      have hx := (recE_fine h0).2.1
      rcases List.mem_cons.1 hr with rfl | hr
      · exact hx
      · have := recsE_rise h r hr
        omega
    · rw [if_pos h0] at h; exact absurd h h0
theorem any_late {b : Bat} {off : Int} (h : recsE b b.recs (-1) = 0) : (b.recs.any fun r => decide (r.off < off)) = late b.recs off := by
  cases hl : b.recs with
  | nil => rfl
  | cons x l =>
    rw [hl] at h
    unfold recsE at h
    by_cases h0 : recE x b.base b.last (-1) = 0
    · rw [if_neg (by simp [h0])] at h
      rw [Bool.eq_iff_iff]
      simp only [List.any_cons, Bool.or_eq_true, decide_eq_true_eq, List.any_eq_true, late]
      refine ⟨?_, .inl⟩
      rintro (h1 | ⟨r, hr, h1⟩)
      · exact h1
      · have := recsE_rise h r hr
        omega
    · rw [if_pos h0] at h; exact absurd h h0

theorem dec_few (p : List UInt8) : (decB p).recs.length ≤ 100 := by
  by_cases h : decE p = 0
  · exact (chk_fine (dec_yes h).1).1.few
  · rw [decB_none h]; exact Nat.zero_le _

theorem dec_next {p : List UInt8} {y : Rec} (h : y ∈ (decB p).recs) : IntKind.i64.wrap (y.off + 1) = y.off + 1 := by
  by_cases hd : decE p = 0
  · have hf := (chk_fine (dec_yes hd).1).1
    have h1 := hf.recs y h
    have h2 := hf.head
    unfold HeadBad at h2
    unfold Rec.fine at h1
    rw [IntKind.wrap_i64]
    omega
  · rw [decB_none hd] at h; cases h

theorem argsG {nx : Nat} {a : AV} (h : Cl a) : [AV.ptr 0 0, a] = renL (rho nx [0]) [.ptr 0 0, a] := by
  simp only [renL, ren, h _]
  rfl

structure RdI (p : List UInt8) where
  i : Nat
  hi : i ≤ (decB p).recs.length

theorem lawReads {off corr code most : Int} {p : List UInt8} : CallOK Try.prog 14 [.int .i64 off, .int .i64 corr, .int .i64 code, bs p, .int .i64 most] [] 0 Tru := by
  refine callOK Try.call14 Try.func14 Try.ntmps14 rfl ?_
  conv => arg 4; whnf
  refine ⟨fun h => ?_, fun h => ?_⟩
  · (conv => arg 4; whnf); repeat (refine ⟨rfl, ?_⟩; conv => arg 4; whnf)
    refine call0 awake24 (by (repeat' (first | with_reducible assumption | exact ClL.nil | exact Cl.int _ _ | exact Cl.bool _ | exact Cl.bl _ | exact Cl.bs _ | exact Cl.str _ | exact Cl.nils | exact Cl.nilp | exact Cl.rec _ | exact Cl.bat _ | exact Cl.recsV _ | exact Cl.strsV _ | exact Cl.intsV _ | exact Cl.req _ | exact Cl.rsp _ | exact Cl.reqA _ | exact Cl.rspA _ | exact Cl.batsV _ | exact Cl.getB _ | exact Cl.encA _ | exact Cl.firstA _ | refine ClL.cons ?_ ?_ | refine Cl.tup ?_ | refine Cl.agg ?_ | exact ClO.RO _ _))) (by (repeat' (first | with_reducible assumption | exact ClL.nil | exact Cl.int _ _ | exact Cl.bool _ | exact Cl.bl _ | exact Cl.bs _ | exact Cl.str _ | exact Cl.nils | exact Cl.nilp | exact Cl.rec _ | exact Cl.bat _ | exact Cl.recsV _ | exact Cl.strsV _ | exact Cl.intsV _ | exact Cl.req _ | exact Cl.rsp _ | exact Cl.reqA _ | exact Cl.rspA _ | exact Cl.batsV _ | exact Cl.getB _ | exact Cl.encA _ | exact Cl.firstA _ | refine ClL.cons ?_ ?_ | refine Cl.tup ?_ | refine Cl.agg ?_ | exact ClO.RO _ _))) ?_
    (conv => arg 4; whnf); repeat (refine ⟨rfl, ?_⟩; conv => arg 4; whnf)
    exact .inl rfl
  · rw [← Bool.not_eq_true] at h; simp only [Bool.cond_true_left, Bool.cond_false_right, Bool.or_eq_true, Bool.and_eq_true, Bool.not_eq_true', decide_eq_true_eq, beq_iff_eq, bne_iff_ne, u8s_length, gt_iff_lt, ge_iff_le] at h
    have hc : 0 ≤ code ∧ code ≤ 100 ∧ p.length ≤ 3000 := by omega
    by_cases ho : 0 ≤ off ∧ off ≤ 4611686018427387904
    · have hd : (bif decide (off ≥ 0) then decide (off ≤ 4611686018427387904) else false) = true := by simp; omega
      (conv => arg 4; whnf); repeat (refine ⟨rfl, ?_⟩; conv => arg 4; whnf)
      refine callG [] (ctNewReader (t := [116]) (part := 3) ho) rfl trivial rfl rfl rfl ?_
      (conv => arg 4; whnf); repeat (refine ⟨rfl, ?_⟩; conv => arg 4; whnf)
      refine ⟨fun h' => absurd h' (by rw [hd]; decide), fun _ => ?_⟩
      (conv => arg 4; whnf); repeat (refine ⟨rfl, ?_⟩; conv => arg 4; whnf)
      refine ⟨fun h' => absurd h' (by rw [hd]; decide), fun _ => ?_⟩
      (conv => arg 4; whnf); repeat (refine ⟨rfl, ?_⟩; conv => arg 4; whnf)
      refine callG [0] (ctAsk (t := [116]) (part := 3) (off := off) (corr := 0) (most := most) (by decide)) rfl ⟨⟨by decide, rfl⟩, trivial⟩ rfl (Cl.rqV Cl.nils _) rfl ?_
      (conv => arg 4; whnf); repeat (refine ⟨rfl, ?_⟩; conv => arg 4; whnf)
      refine ⟨fun h' => absurd h' (by simp), fun _ => ?_⟩
      (conv => arg 4; whnf); repeat (refine ⟨rfl, ?_⟩; conv => arg 4; whnf)
      refine call0 (refDecode (p := p) (by omega)) (by (repeat' (first | with_reducible assumption | exact ClL.nil | exact Cl.int _ _ | exact Cl.bool _ | exact Cl.bl _ | exact Cl.bs _ | exact Cl.str _ | exact Cl.nils | exact Cl.nilp | exact Cl.rec _ | exact Cl.bat _ | exact Cl.recsV _ | exact Cl.strsV _ | exact Cl.intsV _ | exact Cl.req _ | exact Cl.rsp _ | exact Cl.reqA _ | exact Cl.rspA _ | exact Cl.batsV _ | exact Cl.getB _ | exact Cl.encA _ | exact Cl.firstA _ | refine ClL.cons ?_ ?_ | refine Cl.tup ?_ | refine Cl.agg ?_ | exact ClO.RO _ _))) (by (repeat' (first | with_reducible assumption | exact ClL.nil | exact Cl.int _ _ | exact Cl.bool _ | exact Cl.bl _ | exact Cl.bs _ | exact Cl.str _ | exact Cl.nils | exact Cl.nilp | exact Cl.rec _ | exact Cl.bat _ | exact Cl.recsV _ | exact Cl.strsV _ | exact Cl.intsV _ | exact Cl.req _ | exact Cl.rsp _ | exact Cl.reqA _ | exact Cl.rspA _ | exact Cl.batsV _ | exact Cl.getB _ | exact Cl.encA _ | exact Cl.firstA _ | refine ClL.cons ?_ ?_ | refine Cl.tup ?_ | refine Cl.agg ?_ | exact ClO.RO _ _))) ?_
      (conv => arg 4; whnf); repeat (refine ⟨rfl, ?_⟩; conv => arg 4; whnf)
      obtain ⟨B, hB⟩ : ∃ B : Bool, B = (bif decide (((u8s p).length : Int) > 0) then decE p != 0 else false) := ⟨_, rfl⟩
      refine tri_loopG (ι := RdI p) (fun x => ⟨[(18, .int .i64 x.i), (17, .bool (B || ((decB p).recs.take x.i).any fun r => decide (r.off < off))), (15, .ptr 2 0), (11, .ptr 0 0), (0, .int .i64 off), (1, .int .i64 corr), (2, .int .i64 code), (3, bs p)], [(2, .cells [.int .i64 (decB p).base, .int .i64 (decB p).last, .int .i64 (decB p).prod, .int .i64 (decB p).epoch, .int .i64 (decB p).seq, recsV (decB p).recs]), (0, rdO [116] 3 off 1)], 3, 233⟩) (fun x => (decB p).recs.length - x.i) ⟨0, Nat.zero_le _⟩ ?_ ?_
      · exact WkG.of rfl rfl ⟨Le.refl _ _, Le.of_eq (show AV.bool (bif decide (((u8s p).length : Int) > 0) then decE p != 0 else false) = _ from congrArg AV.bool (by rw [← hB, List.take_zero, List.any_nil, Bool.or_false])), Le.refl _ _, Le.refl _ _, Le.refl _ _, Le.refl _ _, Le.refl _ _, Le.refl _ _, trivial⟩ ⟨⟨_, rfl, LeO.refl _ _⟩, ⟨_, rfl, LeO.refl _ _⟩, trivial⟩ ⟨rfl, rfl, rfl, rfl, rfl, rfl, rfl, Cl.bs _ _, trivial⟩ ⟨⟨by decide, ClO.cells (by (repeat' (first | with_reducible assumption | exact ClL.nil | exact Cl.int _ _ | exact Cl.bool _ | exact Cl.bl _ | exact Cl.bs _ | exact Cl.str _ | exact Cl.nils | exact Cl.nilp | exact Cl.rec _ | exact Cl.bat _ | exact Cl.recsV _ | exact Cl.strsV _ | exact Cl.intsV _ | exact Cl.req _ | exact Cl.rsp _ | exact Cl.reqA _ | exact Cl.rspA _ | exact Cl.batsV _ | exact Cl.getB _ | exact Cl.encA _ | exact Cl.firstA _ | refine ClL.cons ?_ ?_ | refine Cl.tup ?_ | refine Cl.agg ?_ | exact ClO.RO _ _))) _⟩, ⟨by decide, rfl⟩, trivial⟩
      rintro ⟨i, hi⟩
      dsimp only
      conv => arg 4; whnf
      refine ⟨fun hlt => ?_, fun hlt => ?_⟩
      · have hlt : i < (decB p).recs.length := by rw [recs_length] at hlt; simp at hlt; omega
        obtain ⟨x, hx⟩ : ∃ x, (decB p).recs[i]? = some x := ⟨_, List.getElem?_eq_getElem hlt⟩
        have htk : ((decB p).recs.take (i + 1)).any (fun r => decide (r.off < off)) = (((decB p).recs.take i).any (fun r => decide (r.off < off)) || decide (x.off < off)) := by
          rw [List.take_add_one, hx, List.any_append]; simp
        (conv => arg 4; whnf); repeat (refine ⟨rfl, ?_⟩; conv => arg 4; whnf)
        refine ⟨x.av, ctxP_of ⟨by omega, recs_get hx⟩, ?_⟩
        conv => arg 4; whnf
        refine ⟨⟨i + 1, hlt⟩, by show (decB p).recs.length - (i + 1) < (decB p).recs.length - i; omega, WkG.of rfl rfl ⟨Le.of_eq (succ_i64 (by have := dec_few p; omega)), Le.of_eq (show AV.bool (bif (B || ((decB p).recs.take i).any fun r => decide (r.off < off)) then true else decide (x.off < off)) = _ from congrArg AV.bool (by rw [htk]; cases B <;> cases ((decB p).recs.take i).any (fun r => decide (r.off < off)) <;> simp)), Le.refl _ _, Le.refl _ _, Le.refl _ _, Le.refl _ _, Le.refl _ _, Le.refl _ _, trivial⟩ ⟨⟨_, rfl, LeO.refl _ _⟩, ⟨_, rfl, LeO.refl _ _⟩, trivial⟩ ⟨rfl, rfl, rfl, rfl, rfl, rfl, rfl, Cl.bs _ _, trivial⟩ ⟨⟨by decide, ClO.cells (by (repeat' (first | with_reducible assumption | exact ClL.nil | exact Cl.int _ _ | exact Cl.bool _ | exact Cl.bl _ | exact Cl.bs _ | exact Cl.str _ | exact Cl.nils | exact Cl.nilp | exact Cl.rec _ | exact Cl.bat _ | exact Cl.recsV _ | exact Cl.strsV _ | exact Cl.intsV _ | exact Cl.req _ | exact Cl.rsp _ | exact Cl.reqA _ | exact Cl.rspA _ | exact Cl.batsV _ | exact Cl.getB _ | exact Cl.encA _ | exact Cl.firstA _ | refine ClL.cons ?_ ?_ | refine Cl.tup ?_ | refine Cl.agg ?_ | exact ClO.RO _ _))) _⟩, ⟨by decide, rfl⟩, trivial⟩⟩
      · have hlt : i = (decB p).recs.length := by rw [recs_length] at hlt; simp at hlt; omega
        subst hlt
        rw [List.take_length]
        conv => arg 4; whnf
        refine fin_exit ?_
        show holds _ _ _ _
        conv => arg 4; whnf
        have hfew := dec_few p
        obtain ⟨gl, ge, go, hg⟩ : ∃ l e o, gotS 1 off corr code p = (l, e, o) := ⟨_, _, _, rfl⟩
        have c := ctGot (t := [116]) (part := 3) (off := off) (corr := 1) (c := corr) (e := code) (o := 0) (p := p) (by omega)
        rw [hg] at c
        refine callG [0] c rfl ⟨⟨by decide, rfl⟩, trivial⟩ (argsG (Cl.rsV (Cl.bs _))) (Cl.tup (ClL.cons (Cl.recsV _) (ClL.cons (Cl.int _ _) ClL.nil)) _) rfl ?_
        (conv => arg 4; whnf); repeat (refine ⟨rfl, ?_⟩; conv => arg 4; whnf)
        refine ⟨fun h1 => ?_, fun h1 => ?_⟩
        · have h1 : corr ≠ 1 := by simpa using h1
          rw [gotS, if_pos (.inr h1)] at hg
          cases hg
          (conv => arg 4; whnf); repeat (refine ⟨rfl, ?_⟩; conv => arg 4; whnf)
          refine ⟨fun _ => ?_, fun h' => absurd h' (by simp [recsL])⟩
          (conv => arg 4; whnf); repeat (refine ⟨rfl, ?_⟩; conv => arg 4; whnf)
          refine callG [0] (ctOffset (t := [116]) (part := 3) (off := off) (corr := 1)) rfl ⟨⟨by decide, rfl⟩, trivial⟩ rfl rfl rfl ?_
          (conv => arg 4; whnf); repeat (refine ⟨rfl, ?_⟩; conv => arg 4; whnf)
          refine ⟨fun _ => ?_, fun h' => absurd h' (by simp [recsL])⟩
          (conv => arg 4; whnf); repeat (refine ⟨rfl, ?_⟩; conv => arg 4; whnf)
          refine call0 awake24 (by (repeat' (first | with_reducible assumption | exact ClL.nil | exact Cl.int _ _ | exact Cl.bool _ | exact Cl.bl _ | exact Cl.bs _ | exact Cl.str _ | exact Cl.nils | exact Cl.nilp | exact Cl.rec _ | exact Cl.bat _ | exact Cl.recsV _ | exact Cl.strsV _ | exact Cl.intsV _ | exact Cl.req _ | exact Cl.rsp _ | exact Cl.reqA _ | exact Cl.rspA _ | exact Cl.batsV _ | exact Cl.getB _ | exact Cl.encA _ | exact Cl.firstA _ | refine ClL.cons ?_ ?_ | refine Cl.tup ?_ | refine Cl.agg ?_ | exact ClO.RO _ _))) (by (repeat' (first | with_reducible assumption | exact ClL.nil | exact Cl.int _ _ | exact Cl.bool _ | exact Cl.bl _ | exact Cl.bs _ | exact Cl.str _ | exact Cl.nils | exact Cl.nilp | exact Cl.rec _ | exact Cl.bat _ | exact Cl.recsV _ | exact Cl.strsV _ | exact Cl.intsV _ | exact Cl.req _ | exact Cl.rsp _ | exact Cl.reqA _ | exact Cl.rspA _ | exact Cl.batsV _ | exact Cl.getB _ | exact Cl.encA _ | exact Cl.firstA _ | refine ClL.cons ?_ ?_ | refine Cl.tup ?_ | refine Cl.agg ?_ | exact ClO.RO _ _))) ?_
          (conv => arg 4; whnf); repeat (refine ⟨rfl, ?_⟩; conv => arg 4; whnf)
          exact .inl rfl
        · have h1 : corr = 1 := by simpa using h1
          subst h1
          rw [gotS, if_neg (by omega)] at hg
          (conv => arg 4; whnf); repeat (refine ⟨rfl, ?_⟩; conv => arg 4; whnf)
          refine ⟨fun h2 => ?_, fun h2 => ?_⟩
          · have h2 : code ≠ 0 := by simpa using h2
            rw [if_pos h2] at hg
            cases hg
            (conv => arg 4; whnf); repeat (refine ⟨rfl, ?_⟩; conv => arg 4; whnf)
            refine ⟨fun _ => ?_, fun h' => absurd h' (by simp [recsL])⟩
            (conv => arg 4; whnf); repeat (refine ⟨rfl, ?_⟩; conv => arg 4; whnf)
            refine callG [0] (ctOffset (t := [116]) (part := 3) (off := off) (corr := 1)) rfl ⟨⟨by decide, rfl⟩, trivial⟩ rfl rfl rfl ?_
            (conv => arg 4; whnf); repeat (refine ⟨rfl, ?_⟩; conv => arg 4; whnf)
            refine ⟨fun _ => ?_, fun h' => absurd h' (by simp [recsL])⟩
            (conv => arg 4; whnf); repeat (refine ⟨rfl, ?_⟩; conv => arg 4; whnf)
            refine call0 awake24 (by (repeat' (first | with_reducible assumption | exact ClL.nil | exact Cl.int _ _ | exact Cl.bool _ | exact Cl.bl _ | exact Cl.bs _ | exact Cl.str _ | exact Cl.nils | exact Cl.nilp | exact Cl.rec _ | exact Cl.bat _ | exact Cl.recsV _ | exact Cl.strsV _ | exact Cl.intsV _ | exact Cl.req _ | exact Cl.rsp _ | exact Cl.reqA _ | exact Cl.rspA _ | exact Cl.batsV _ | exact Cl.getB _ | exact Cl.encA _ | exact Cl.firstA _ | refine ClL.cons ?_ ?_ | refine Cl.tup ?_ | refine Cl.agg ?_ | exact ClO.RO _ _))) (by (repeat' (first | with_reducible assumption | exact ClL.nil | exact Cl.int _ _ | exact Cl.bool _ | exact Cl.bl _ | exact Cl.bs _ | exact Cl.str _ | exact Cl.nils | exact Cl.nilp | exact Cl.rec _ | exact Cl.bat _ | exact Cl.recsV _ | exact Cl.strsV _ | exact Cl.intsV _ | exact Cl.req _ | exact Cl.rsp _ | exact Cl.reqA _ | exact Cl.rspA _ | exact Cl.batsV _ | exact Cl.getB _ | exact Cl.encA _ | exact Cl.firstA _ | refine ClL.cons ?_ ?_ | refine Cl.tup ?_ | refine Cl.agg ?_ | exact ClO.RO _ _))) ?_
            (conv => arg 4; whnf); repeat (refine ⟨rfl, ?_⟩; conv => arg 4; whnf)
            exact .inl rfl
          · have h2 : code = 0 := by simpa using h2
            subst h2
            rw [if_neg (by omega)] at hg
            have hB2 : (B || (decB p).recs.any fun r => decide (r.off < off)) = true ↔ p ≠ [] ∧ (decE p ≠ 0 ∨ late (decB p).recs off = true) := by
              rw [hB, u8s_length]
              by_cases hp : p = []
              · subst hp
                have hne : decE [] ≠ 0 := fun e => by
                  have := (dec_yes e).2
                  have hl := congrArg List.length this
                  rw [batE_len] at hl
                  simp at hl
                rw [decB_none hne]
                simp
              · have hpl : 0 < p.length := List.length_pos_iff.2 hp
                by_cases hd2 : decE p = 0
                · rw [any_late (chk_fine (dec_yes hd2).1).2.2]
                  simp [hp, hd2]
                · simp [hp, hd2]
                  exact .inl hpl
            (conv => arg 4; whnf); repeat (refine ⟨rfl, ?_⟩; conv => arg 4; whnf)
            refine ⟨fun h3 => ?_, fun h3 => ?_⟩
            · have h3 := hB2.1 h3
              rw [if_neg h3.1, if_pos h3.2] at hg
              cases hg
              (conv => arg 4; whnf); repeat (refine ⟨rfl, ?_⟩; conv => arg 4; whnf)
              refine ⟨fun _ => ?_, fun h' => absurd h' (by simp [recsL])⟩
              (conv => arg 4; whnf); repeat (refine ⟨rfl, ?_⟩; conv => arg 4; whnf)
              refine callG [0] (ctOffset (t := [116]) (part := 3) (off := off) (corr := 1)) rfl ⟨⟨by decide, rfl⟩, trivial⟩ rfl rfl rfl ?_
              (conv => arg 4; whnf); repeat (refine ⟨rfl, ?_⟩; conv => arg 4; whnf)
              refine ⟨fun _ => ?_, fun h' => absurd h' (by simp [recsL])⟩
              (conv => arg 4; whnf); repeat (refine ⟨rfl, ?_⟩; conv => arg 4; whnf)
              refine call0 awake24 (by (repeat' (first | with_reducible assumption | exact ClL.nil | exact Cl.int _ _ | exact Cl.bool _ | exact Cl.bl _ | exact Cl.bs _ | exact Cl.str _ | exact Cl.nils | exact Cl.nilp | exact Cl.rec _ | exact Cl.bat _ | exact Cl.recsV _ | exact Cl.strsV _ | exact Cl.intsV _ | exact Cl.req _ | exact Cl.rsp _ | exact Cl.reqA _ | exact Cl.rspA _ | exact Cl.batsV _ | exact Cl.getB _ | exact Cl.encA _ | exact Cl.firstA _ | refine ClL.cons ?_ ?_ | refine Cl.tup ?_ | refine Cl.agg ?_ | exact ClO.RO _ _))) (by (repeat' (first | with_reducible assumption | exact ClL.nil | exact Cl.int _ _ | exact Cl.bool _ | exact Cl.bl _ | exact Cl.bs _ | exact Cl.str _ | exact Cl.nils | exact Cl.nilp | exact Cl.rec _ | exact Cl.bat _ | exact Cl.recsV _ | exact Cl.strsV _ | exact Cl.intsV _ | exact Cl.req _ | exact Cl.rsp _ | exact Cl.reqA _ | exact Cl.rspA _ | exact Cl.batsV _ | exact Cl.getB _ | exact Cl.encA _ | exact Cl.firstA _ | refine ClL.cons ?_ ?_ | refine Cl.tup ?_ | refine Cl.agg ?_ | exact ClO.RO _ _))) ?_
              (conv => arg 4; whnf); repeat (refine ⟨rfl, ?_⟩; conv => arg 4; whnf)
              exact .inl rfl
            · have h3 : ¬ (p ≠ [] ∧ (decE p ≠ 0 ∨ late (decB p).recs off = true)) := fun hh => by rw [hB2.2 hh] at h3; cases h3
              have hq : gl = (decB p).recs ∧ ge = 0 ∧ go = nextO (decB p).recs off := by
                by_cases hp : p = []
                · rw [if_pos hp] at hg
                  cases hg
                  have hne : decE p ≠ 0 := fun e => by
                    have hl := congrArg List.length (dec_yes e).2
                    rw [batE_len, hp] at hl
                    simp at hl
                  rw [decB_none hne]
                  exact ⟨rfl, rfl, rfl⟩
                · rw [if_neg hp, if_neg fun hh => h3 ⟨hp, hh⟩] at hg
                  cases hg
                  exact ⟨rfl, rfl, rfl⟩
              obtain ⟨rfl, rfl, rfl⟩ := hq
              (conv => arg 4; whnf); repeat (refine ⟨rfl, ?_⟩; conv => arg 4; whnf)
              refine ⟨fun h4 => ?_, fun h4 => ?_⟩
              · have h4 : 0 < (decB p).recs.length := by rw [recs_length] at h4; simp only [decide_eq_true_eq] at h4; omega
                obtain ⟨y, hy⟩ : ∃ y, (decB p).recs[(decB p).recs.length - 1]? = some y := ⟨_, List.getElem?_eq_getElem (by omega)⟩
                have hyl : (decB p).recs.getLast? = some y := by rw [List.getLast?_eq_getElem?]; exact hy
                have hny : nextO (decB p).recs off = y.off + 1 := by rw [nextO, hyl]
                have hyo : IntKind.i64.wrap (y.off + 1) = y.off + 1 := dec_next (List.mem_of_getElem? hy)
                have hix : IntKind.i64.wrap (((recsL (decB p).recs).length : Int) - 1) = (((decB p).recs.length - 1 : Nat) : Int) := by
                  rw [recs_length, IntKind.wrap_i64]; omega
                (conv => arg 4; whnf); repeat (refine ⟨rfl, ?_⟩; conv => arg 4; whnf)
                refine ⟨y.av, ⟨by rw [hix]; omega, by rw [hix]; exact recs_get hy⟩, ?_⟩
                (conv => arg 4; whnf); repeat (refine ⟨rfl, ?_⟩; conv => arg 4; whnf)
                refine ⟨fun _ => ?_, fun h' => absurd h' (by simp)⟩
                (conv => arg 4; whnf); repeat (refine ⟨rfl, ?_⟩; conv => arg 4; whnf)
                refine call0 (refSameRecs (a := (decB p).recs) (b := (decB p).recs) (by omega)) (ClL.cons (Cl.recsV _) (ClL.cons (Cl.recsV _) ClL.nil)) (by (repeat' (first | with_reducible assumption | exact ClL.nil | exact Cl.int _ _ | exact Cl.bool _ | exact Cl.bl _ | exact Cl.bs _ | exact Cl.str _ | exact Cl.nils | exact Cl.nilp | exact Cl.rec _ | exact Cl.bat _ | exact Cl.recsV _ | exact Cl.strsV _ | exact Cl.intsV _ | exact Cl.req _ | exact Cl.rsp _ | exact Cl.reqA _ | exact Cl.rspA _ | exact Cl.batsV _ | exact Cl.getB _ | exact Cl.encA _ | exact Cl.firstA _ | refine ClL.cons ?_ ?_ | refine Cl.tup ?_ | refine Cl.agg ?_ | exact ClO.RO _ _))) ?_
                (conv => arg 4; whnf); repeat (refine ⟨rfl, ?_⟩; conv => arg 4; whnf)
                refine ⟨fun _ => ?_, fun h' => absurd h' (by simp)⟩
                (conv => arg 4; whnf); repeat (refine ⟨rfl, ?_⟩; conv => arg 4; whnf)
                refine callG [0] (ctOffset (t := [116]) (part := 3) (off := nextO (decB p).recs off) (corr := 1)) rfl ⟨⟨by decide, rfl⟩, trivial⟩ rfl rfl rfl ?_
                (conv => arg 4; whnf); repeat (refine ⟨rfl, ?_⟩; conv => arg 4; whnf)
                refine ⟨fun _ => ?_, fun h' => absurd h' (by rw [hny, hyo]; simp)⟩
                (conv => arg 4; whnf); repeat (refine ⟨rfl, ?_⟩; conv => arg 4; whnf)
                refine callG [0] (ctAsk (t := [116]) (part := 3) (off := nextO (decB p).recs off) (corr := 1) (most := 1) (by decide)) rfl ⟨⟨by decide, rfl⟩, trivial⟩ rfl (Cl.rqV Cl.nils _) rfl ?_
                (conv => arg 4; whnf); repeat (refine ⟨rfl, ?_⟩; conv => arg 4; whnf)
                refine ⟨fun _ => ?_, fun h' => absurd h' (by decide)⟩
                (conv => arg 4; whnf); repeat (refine ⟨rfl, ?_⟩; conv => arg 4; whnf)
                refine call0 awake24 (by (repeat' (first | with_reducible assumption | exact ClL.nil | exact Cl.int _ _ | exact Cl.bool _ | exact Cl.bl _ | exact Cl.bs _ | exact Cl.str _ | exact Cl.nils | exact Cl.nilp | exact Cl.rec _ | exact Cl.bat _ | exact Cl.recsV _ | exact Cl.strsV _ | exact Cl.intsV _ | exact Cl.req _ | exact Cl.rsp _ | exact Cl.reqA _ | exact Cl.rspA _ | exact Cl.batsV _ | exact Cl.getB _ | exact Cl.encA _ | exact Cl.firstA _ | refine ClL.cons ?_ ?_ | refine Cl.tup ?_ | refine Cl.agg ?_ | exact ClO.RO _ _))) (by (repeat' (first | with_reducible assumption | exact ClL.nil | exact Cl.int _ _ | exact Cl.bool _ | exact Cl.bl _ | exact Cl.bs _ | exact Cl.str _ | exact Cl.nils | exact Cl.nilp | exact Cl.rec _ | exact Cl.bat _ | exact Cl.recsV _ | exact Cl.strsV _ | exact Cl.intsV _ | exact Cl.req _ | exact Cl.rsp _ | exact Cl.reqA _ | exact Cl.rspA _ | exact Cl.batsV _ | exact Cl.getB _ | exact Cl.encA _ | exact Cl.firstA _ | refine ClL.cons ?_ ?_ | refine Cl.tup ?_ | refine Cl.agg ?_ | exact ClO.RO _ _))) ?_
                (conv => arg 4; whnf); repeat (refine ⟨rfl, ?_⟩; conv => arg 4; whnf)
                exact .inl rfl
              · have h4 : (decB p).recs = [] := by rw [recs_length] at h4; simpa using h4
                have hny : nextO (decB p).recs off = off := by rw [h4]; rfl
                (conv => arg 4; whnf); repeat (refine ⟨rfl, ?_⟩; conv => arg 4; whnf)
                refine ⟨fun _ => ?_, fun h' => absurd h' (by simp)⟩
                (conv => arg 4; whnf); repeat (refine ⟨rfl, ?_⟩; conv => arg 4; whnf)
                refine call0 (refSameRecs (a := (decB p).recs) (b := (decB p).recs) (by omega)) (ClL.cons (Cl.recsV _) (ClL.cons (Cl.recsV _) ClL.nil)) (by (repeat' (first | with_reducible assumption | exact ClL.nil | exact Cl.int _ _ | exact Cl.bool _ | exact Cl.bl _ | exact Cl.bs _ | exact Cl.str _ | exact Cl.nils | exact Cl.nilp | exact Cl.rec _ | exact Cl.bat _ | exact Cl.recsV _ | exact Cl.strsV _ | exact Cl.intsV _ | exact Cl.req _ | exact Cl.rsp _ | exact Cl.reqA _ | exact Cl.rspA _ | exact Cl.batsV _ | exact Cl.getB _ | exact Cl.encA _ | exact Cl.firstA _ | refine ClL.cons ?_ ?_ | refine Cl.tup ?_ | refine Cl.agg ?_ | exact ClO.RO _ _))) ?_
                (conv => arg 4; whnf); repeat (refine ⟨rfl, ?_⟩; conv => arg 4; whnf)
                refine ⟨fun _ => ?_, fun h' => absurd h' (by simp)⟩
                (conv => arg 4; whnf); repeat (refine ⟨rfl, ?_⟩; conv => arg 4; whnf)
                refine callG [0] (ctOffset (t := [116]) (part := 3) (off := nextO (decB p).recs off) (corr := 1)) rfl ⟨⟨by decide, rfl⟩, trivial⟩ rfl rfl rfl ?_
                (conv => arg 4; whnf); repeat (refine ⟨rfl, ?_⟩; conv => arg 4; whnf)
                refine ⟨fun _ => ?_, fun h' => absurd h' (by rw [hny]; simp)⟩
                (conv => arg 4; whnf); repeat (refine ⟨rfl, ?_⟩; conv => arg 4; whnf)
                refine callG [0] (ctAsk (t := [116]) (part := 3) (off := nextO (decB p).recs off) (corr := 1) (most := 1) (by decide)) rfl ⟨⟨by decide, rfl⟩, trivial⟩ rfl (Cl.rqV Cl.nils _) rfl ?_
                (conv => arg 4; whnf); repeat (refine ⟨rfl, ?_⟩; conv => arg 4; whnf)
                refine ⟨fun _ => ?_, fun h' => absurd h' (by decide)⟩
                (conv => arg 4; whnf); repeat (refine ⟨rfl, ?_⟩; conv => arg 4; whnf)
                refine call0 awake24 (by (repeat' (first | with_reducible assumption | exact ClL.nil | exact Cl.int _ _ | exact Cl.bool _ | exact Cl.bl _ | exact Cl.bs _ | exact Cl.str _ | exact Cl.nils | exact Cl.nilp | exact Cl.rec _ | exact Cl.bat _ | exact Cl.recsV _ | exact Cl.strsV _ | exact Cl.intsV _ | exact Cl.req _ | exact Cl.rsp _ | exact Cl.reqA _ | exact Cl.rspA _ | exact Cl.batsV _ | exact Cl.getB _ | exact Cl.encA _ | exact Cl.firstA _ | refine ClL.cons ?_ ?_ | refine Cl.tup ?_ | refine Cl.agg ?_ | exact ClO.RO _ _))) (by (repeat' (first | with_reducible assumption | exact ClL.nil | exact Cl.int _ _ | exact Cl.bool _ | exact Cl.bl _ | exact Cl.bs _ | exact Cl.str _ | exact Cl.nils | exact Cl.nilp | exact Cl.rec _ | exact Cl.bat _ | exact Cl.recsV _ | exact Cl.strsV _ | exact Cl.intsV _ | exact Cl.req _ | exact Cl.rsp _ | exact Cl.reqA _ | exact Cl.rspA _ | exact Cl.batsV _ | exact Cl.getB _ | exact Cl.encA _ | exact Cl.firstA _ | refine ClL.cons ?_ ?_ | refine Cl.tup ?_ | refine Cl.agg ?_ | exact ClO.RO _ _))) ?_
                (conv => arg 4; whnf); repeat (refine ⟨rfl, ?_⟩; conv => arg 4; whnf)
                exact .inl rfl
    · have hd : (bif decide (off ≥ 0) then decide (off ≤ 4611686018427387904) else false) = false := by simp; omega
      (conv => arg 4; whnf); repeat (refine ⟨rfl, ?_⟩; conv => arg 4; whnf)
      refine call0 (ctNewReaderNo (t := [116]) (part := 3) ho) (by (repeat' (first | with_reducible assumption | exact ClL.nil | exact Cl.int _ _ | exact Cl.bool _ | exact Cl.bl _ | exact Cl.bs _ | exact Cl.str _ | exact Cl.nils | exact Cl.nilp | exact Cl.rec _ | exact Cl.bat _ | exact Cl.recsV _ | exact Cl.strsV _ | exact Cl.intsV _ | exact Cl.req _ | exact Cl.rsp _ | exact Cl.reqA _ | exact Cl.rspA _ | exact Cl.batsV _ | exact Cl.getB _ | exact Cl.encA _ | exact Cl.firstA _ | refine ClL.cons ?_ ?_ | refine Cl.tup ?_ | refine Cl.agg ?_ | exact ClO.RO _ _))) (by (repeat' (first | with_reducible assumption | exact ClL.nil | exact Cl.int _ _ | exact Cl.bool _ | exact Cl.bl _ | exact Cl.bs _ | exact Cl.str _ | exact Cl.nils | exact Cl.nilp | exact Cl.rec _ | exact Cl.bat _ | exact Cl.recsV _ | exact Cl.strsV _ | exact Cl.intsV _ | exact Cl.req _ | exact Cl.rsp _ | exact Cl.reqA _ | exact Cl.rspA _ | exact Cl.batsV _ | exact Cl.getB _ | exact Cl.encA _ | exact Cl.firstA _ | refine ClL.cons ?_ ?_ | refine Cl.tup ?_ | refine Cl.agg ?_ | exact ClO.RO _ _))) ?_
      (conv => arg 4; whnf); repeat (refine ⟨rfl, ?_⟩; conv => arg 4; whnf)
      refine ⟨fun h' => absurd h' (by rw [hd]; decide), fun _ => ?_⟩
      (conv => arg 4; whnf); repeat (refine ⟨rfl, ?_⟩; conv => arg 4; whnf)
      refine ⟨fun _ => ?_, fun h' => absurd h' (by rw [hd]; decide)⟩
      (conv => arg 4; whnf); repeat (refine ⟨rfl, ?_⟩; conv => arg 4; whnf)
      refine call0 awake24 (by (repeat' (first | with_reducible assumption | exact ClL.nil | exact Cl.int _ _ | exact Cl.bool _ | exact Cl.bl _ | exact Cl.bs _ | exact Cl.str _ | exact Cl.nils | exact Cl.nilp | exact Cl.rec _ | exact Cl.bat _ | exact Cl.recsV _ | exact Cl.strsV _ | exact Cl.intsV _ | exact Cl.req _ | exact Cl.rsp _ | exact Cl.reqA _ | exact Cl.rspA _ | exact Cl.batsV _ | exact Cl.getB _ | exact Cl.encA _ | exact Cl.firstA _ | refine ClL.cons ?_ ?_ | refine Cl.tup ?_ | refine Cl.agg ?_ | exact ClO.RO _ _))) (by (repeat' (first | with_reducible assumption | exact ClL.nil | exact Cl.int _ _ | exact Cl.bool _ | exact Cl.bl _ | exact Cl.bs _ | exact Cl.str _ | exact Cl.nils | exact Cl.nilp | exact Cl.rec _ | exact Cl.bat _ | exact Cl.recsV _ | exact Cl.strsV _ | exact Cl.intsV _ | exact Cl.req _ | exact Cl.rsp _ | exact Cl.reqA _ | exact Cl.rspA _ | exact Cl.batsV _ | exact Cl.getB _ | exact Cl.encA _ | exact Cl.firstA _ | refine ClL.cons ?_ ?_ | refine Cl.tup ?_ | refine Cl.agg ?_ | exact ClO.RO _ _))) ?_
      (conv => arg 4; whnf); repeat (refine ⟨rfl, ?_⟩; conv => arg 4; whnf)
      exact .inl rfl
end Go.Proofs.Ythclmkhkchbpiaa.Ct

namespace Go.Proofs.Ythclmkhkchbpiaa.Ct
set_option maxRecDepth 100000
set_option maxHeartbeats 80000000
open Go.Sym

structure FwI (l : List Bat) where
  i : Nat
  at_ : Int
  corr : Nat
  hi : i ≤ l.length
  hc : corr ≤ i
  ha : 0 ≤ at_ ∧ at_ ≤ 4611686018427387905

theorem got_is {x : Bat} {at_ corr : Int} (hk : x.chk = 0) (hc : 0 < corr) : gotS corr at_ corr 0 x.enc = if late x.recs at_ = true then ([], 2, at_) else (x.recs, 0, nextO x.recs at_) := by
  have hne : x.enc ≠ [] := fun e => by
    have := congrArg List.length e
    rw [batE_len] at this
    simp at this
  rw [gotS, if_neg (by omega), if_neg (by simp), if_neg hne, (dec_is hk).1, (dec_is hk).2]
  by_cases hl : late x.recs at_ = true
  · rw [if_pos (.inr hl), if_pos hl]
  · rw [if_neg (by simp [hl]), if_neg hl]

theorem lawFollows {l : List Bat} {off : Int} (hl : l.length ≤ 1000000000000000) (hr : ∀ b ∈ l, b.recs.length ≤ 1000000000000000) (hoff : I64 off) : CallOK Try.prog 15 [batsV l, .int .i64 off] [] 0 Tru := by
  refine callOK Try.call15 Try.func15 Try.ntmps15 rfl ?_
  conv => arg 4; whnf
  refine call0E (alikeBatches hl hr) (ClL.cons (Cl.batsV _) (ClL.cons (Cl.int _ _) ClL.nil)) (fun x => by (repeat' (first | with_reducible assumption | exact ClL.nil | exact Cl.int _ _ | exact Cl.bool _ | exact Cl.bl _ | exact Cl.bs _ | exact Cl.str _ | exact Cl.nils | exact Cl.nilp | exact Cl.rec _ | exact Cl.bat _ | exact Cl.recsV _ | exact Cl.strsV _ | exact Cl.intsV _ | exact Cl.req _ | exact Cl.rsp _ | exact Cl.reqA _ | exact Cl.rspA _ | exact Cl.batsV _ | exact Cl.getB _ | exact Cl.encA _ | exact Cl.firstA _ | refine ClL.cons ?_ ?_ | refine Cl.tup ?_ | refine Cl.agg ?_ | exact ClO.RO _ _))) fun n hn => ?_
  (conv => arg 4; whnf); repeat (refine ⟨rfl, ?_⟩; conv => arg 4; whnf)
  refine ⟨fun h => ?_, fun h => ?_⟩
  · (conv => arg 4; whnf); repeat (refine ⟨rfl, ?_⟩; conv => arg 4; whnf)
    refine call0 awake24 (by (repeat' (first | with_reducible assumption | exact ClL.nil | exact Cl.int _ _ | exact Cl.bool _ | exact Cl.bl _ | exact Cl.bs _ | exact Cl.str _ | exact Cl.nils | exact Cl.nilp | exact Cl.rec _ | exact Cl.bat _ | exact Cl.recsV _ | exact Cl.strsV _ | exact Cl.intsV _ | exact Cl.req _ | exact Cl.rsp _ | exact Cl.reqA _ | exact Cl.rspA _ | exact Cl.batsV _ | exact Cl.getB _ | exact Cl.encA _ | exact Cl.firstA _ | refine ClL.cons ?_ ?_ | refine Cl.tup ?_ | refine Cl.agg ?_ | exact ClO.RO _ _))) (by (repeat' (first | with_reducible assumption | exact ClL.nil | exact Cl.int _ _ | exact Cl.bool _ | exact Cl.bl _ | exact Cl.bs _ | exact Cl.str _ | exact Cl.nils | exact Cl.nilp | exact Cl.rec _ | exact Cl.bat _ | exact Cl.recsV _ | exact Cl.strsV _ | exact Cl.intsV _ | exact Cl.req _ | exact Cl.rsp _ | exact Cl.reqA _ | exact Cl.rspA _ | exact Cl.batsV _ | exact Cl.getB _ | exact Cl.encA _ | exact Cl.firstA _ | refine ClL.cons ?_ ?_ | refine Cl.tup ?_ | refine Cl.agg ?_ | exact ClO.RO _ _))) ?_
    (conv => arg 4; whnf); repeat (refine ⟨rfl, ?_⟩; conv => arg 4; whnf)
    exact .inl rfl
  · rw [bats_length] at h
    rw [← Bool.not_eq_true] at h; simp only [Bool.cond_true_left, Bool.cond_false_right, Bool.or_eq_true, Bool.and_eq_true, Bool.not_eq_true', decide_eq_true_eq, beq_iff_eq, bne_iff_ne, u8s_length, gt_iff_lt, ge_iff_le] at h
    have ho : 0 ≤ off ∧ off ≤ 4611686018427387904 := by omega
    have hl20 : l.length ≤ 20 := by omega
    (conv => arg 4; whnf); repeat (refine ⟨rfl, ?_⟩; conv => arg 4; whnf)
    refine callG [] (ctNewReader (t := [116]) (part := 0) ho) rfl trivial rfl rfl rfl ?_
    (conv => arg 4; whnf); repeat (refine ⟨rfl, ?_⟩; conv => arg 4; whnf)
    refine ⟨fun h' => absurd h' (by decide), fun _ => ?_⟩
    (conv => arg 4; whnf); repeat (refine ⟨rfl, ?_⟩; conv => arg 4; whnf)
    refine tri_loopG (ι := FwI l) (fun a => ⟨[(8, .int .i64 a.i), (7, .int .i64 a.at_), (5, .ptr 0 0), (0, batsV l)], [(0, rdO [116] 0 a.at_ a.corr)], 1, 143⟩) (fun a => l.length - a.i) ⟨0, off, 0, Nat.zero_le _, Nat.le_refl _, by omega⟩ (WkG.of rfl rfl ⟨Le.refl _ _, Le.refl _ _, Le.refl _ _, Le.refl _ _, trivial⟩ ⟨⟨_, rfl, LeO.refl _ _⟩, trivial⟩ ⟨rfl, rfl, rfl, Cl.batsV _ _, trivial⟩ ⟨⟨by decide, rfl⟩, trivial⟩) ?_
    rintro ⟨i, at_, corr, hi, hc, ha⟩
    dsimp only
    conv => arg 4; whnf
    refine ⟨fun hlt => ?_, fun hlt => ?_⟩
    · have hlt : i < l.length := by rw [bats_length] at hlt; simp at hlt; omega
      obtain ⟨x, hx⟩ : ∃ x, l[i]? = some x := ⟨_, List.getElem?_eq_getElem hlt⟩
      (conv => arg 4; whnf); repeat (refine ⟨rfl, ?_⟩; conv => arg 4; whnf)
      refine ⟨x.av, ⟨by omega, bats_get hx⟩, ?_⟩
      (conv => arg 4; whnf); repeat (refine ⟨rfl, ?_⟩; conv => arg 4; whnf)
      refine ⟨fun h1 => ?_, fun h1 => ?_⟩
      · (conv => arg 4; whnf); repeat (refine ⟨rfl, ?_⟩; conv => arg 4; whnf)
        refine call0 awake24 (by (repeat' (first | with_reducible assumption | exact ClL.nil | exact Cl.int _ _ | exact Cl.bool _ | exact Cl.bl _ | exact Cl.bs _ | exact Cl.str _ | exact Cl.nils | exact Cl.nilp | exact Cl.rec _ | exact Cl.bat _ | exact Cl.recsV _ | exact Cl.strsV _ | exact Cl.intsV _ | exact Cl.req _ | exact Cl.rsp _ | exact Cl.reqA _ | exact Cl.rspA _ | exact Cl.batsV _ | exact Cl.getB _ | exact Cl.encA _ | exact Cl.firstA _ | refine ClL.cons ?_ ?_ | refine Cl.tup ?_ | refine Cl.agg ?_ | exact ClO.RO _ _))) (by (repeat' (first | with_reducible assumption | exact ClL.nil | exact Cl.int _ _ | exact Cl.bool _ | exact Cl.bl _ | exact Cl.bs _ | exact Cl.str _ | exact Cl.nils | exact Cl.nilp | exact Cl.rec _ | exact Cl.bat _ | exact Cl.recsV _ | exact Cl.strsV _ | exact Cl.intsV _ | exact Cl.req _ | exact Cl.rsp _ | exact Cl.reqA _ | exact Cl.rspA _ | exact Cl.batsV _ | exact Cl.getB _ | exact Cl.encA _ | exact Cl.firstA _ | refine ClL.cons ?_ ?_ | refine Cl.tup ?_ | refine Cl.agg ?_ | exact ClO.RO _ _))) ?_
        (conv => arg 4; whnf); repeat (refine ⟨rfl, ?_⟩; conv => arg 4; whnf)
        exact .inl rfl
      · have h1 : x.recs.length ≤ 100 := by rw [recs_length] at h1; simp at h1; omega
        (conv => arg 4; whnf); repeat (refine ⟨rfl, ?_⟩; conv => arg 4; whnf)
        refine ⟨x.av, ⟨by omega, bats_get hx⟩, ?_⟩
        (conv => arg 4; whnf); repeat (refine ⟨rfl, ?_⟩; conv => arg 4; whnf)
        refine call0 (refEnc (b := x) (by omega)) (by (repeat' (first | with_reducible assumption | exact ClL.nil | exact Cl.int _ _ | exact Cl.bool _ | exact Cl.bl _ | exact Cl.bs _ | exact Cl.str _ | exact Cl.nils | exact Cl.nilp | exact Cl.rec _ | exact Cl.bat _ | exact Cl.recsV _ | exact Cl.strsV _ | exact Cl.intsV _ | exact Cl.req _ | exact Cl.rsp _ | exact Cl.reqA _ | exact Cl.rspA _ | exact Cl.batsV _ | exact Cl.getB _ | exact Cl.encA _ | exact Cl.firstA _ | refine ClL.cons ?_ ?_ | refine Cl.tup ?_ | refine Cl.agg ?_ | exact ClO.RO _ _))) (Cl.encA _) ?_
        by_cases hk : x.chk = 0
        · rw [encA_yes hk]
          (conv => arg 4; whnf); repeat (refine ⟨rfl, ?_⟩; conv => arg 4; whnf)
          refine ⟨fun h' => absurd h' (by decide), fun _ => ?_⟩
          (conv => arg 4; whnf); repeat (refine ⟨rfl, ?_⟩; conv => arg 4; whnf)
          refine callG [0] (ctAsk (t := [116]) (part := 0) (off := at_) (corr := corr) (most := 10) (by omega)) rfl ⟨⟨by decide, rfl⟩, trivial⟩ rfl (Cl.rqV Cl.nils _) rfl ?_
          (conv => arg 4; whnf); repeat (refine ⟨rfl, ?_⟩; conv => arg 4; whnf)
          have hcc : IntKind.i64.wrap ((corr : Int) + 1) = ((corr + 1 : Nat) : Int) := by rw [IntKind.wrap_i64]; omega
          have hg := got_is (x := x) (at_ := at_) (corr := (corr : Int) + 1) hk (by omega)
          have hel := (chk_fine hk).2.1
          have c := ctGot (t := [116]) (part := 0) (off := at_) (corr := (corr : Int) + 1) (c := (corr : Int) + 1) (e := 0) (o := 0) (p := x.enc) (by omega)
          rw [hg] at c
          cases hxr : x.recs with
          | nil =>
            have e0 : late x.recs at_ = false := by rw [hxr]; rfl
            have hny : nextO x.recs at_ = at_ := by rw [hxr]; rfl
            rw [e0, if_neg (by decide), hny] at c
            refine callG [0] c rfl ⟨⟨by decide, rfl⟩, trivial⟩ (argsG (Cl.rsV (Cl.bs _))) (Cl.tup (ClL.cons (Cl.recsV _) (ClL.cons (Cl.int _ _) ClL.nil)) _) rfl ?_
            (conv => arg 4; whnf); repeat (refine ⟨rfl, ?_⟩; conv => arg 4; whnf)
            refine ⟨fun h' => absurd h' (by simp), fun _ => ?_⟩
            (conv => arg 4; whnf); repeat (refine ⟨rfl, ?_⟩; conv => arg 4; whnf)
            refine ⟨x.av, ⟨by omega, bats_get hx⟩, ?_⟩
            (conv => arg 4; whnf); repeat (refine ⟨rfl, ?_⟩; conv => arg 4; whnf)
            refine ⟨x.av, ctxP_of ⟨by omega, bats_get hx⟩, ?_⟩
            conv => arg 4; whnf
            refine ⟨(⟨0, 0, false, [], false, []⟩ : Rec).av, (fun h => absurd h (by rw [hxr]; decide) : (decide (((recsL x.recs).length : Int) > 0) = true → _)), ?_⟩
            conv => arg 4; whnf
            refine ⟨fun h' => absurd h' (by rw [hxr]; simp [recsL]), fun _ => ?_⟩
            (conv => arg 4; whnf); repeat (refine ⟨rfl, ?_⟩; conv => arg 4; whnf)
            refine ⟨x.av, ctxP_of ⟨by omega, bats_get hx⟩, ?_⟩
            conv => arg 4; whnf
            refine ⟨fun h' => absurd h' (by simp), fun _ => ?_⟩
            (conv => arg 4; whnf); repeat (refine ⟨rfl, ?_⟩; conv => arg 4; whnf)
            refine call0 (refSameRecs (a := x.recs) (b := x.recs) (by omega)) (ClL.cons (Cl.recsV _) (ClL.cons (Cl.recsV _) ClL.nil)) (by (repeat' (first | with_reducible assumption | exact ClL.nil | exact Cl.int _ _ | exact Cl.bool _ | exact Cl.bl _ | exact Cl.bs _ | exact Cl.str _ | exact Cl.nils | exact Cl.nilp | exact Cl.rec _ | exact Cl.bat _ | exact Cl.recsV _ | exact Cl.strsV _ | exact Cl.intsV _ | exact Cl.req _ | exact Cl.rsp _ | exact Cl.reqA _ | exact Cl.rspA _ | exact Cl.batsV _ | exact Cl.getB _ | exact Cl.encA _ | exact Cl.firstA _ | refine ClL.cons ?_ ?_ | refine Cl.tup ?_ | refine Cl.agg ?_ | exact ClO.RO _ _))) ?_
            (conv => arg 4; whnf); repeat (refine ⟨rfl, ?_⟩; conv => arg 4; whnf)
            refine ⟨fun h' => absurd h' (by simp), fun _ => ?_⟩
            (conv => arg 4; whnf); repeat (refine ⟨rfl, ?_⟩; conv => arg 4; whnf)
            refine ⟨fun h' => absurd h' (by rw [hxr]; simp [recsL]), fun _ => ?_⟩
            (conv => arg 4; whnf); repeat (refine ⟨rfl, ?_⟩; conv => arg 4; whnf)
            refine callG [0] (ctOffset (t := [116]) (part := 0) (off := at_) (corr := (corr : Int) + 1)) rfl ⟨⟨by decide, rfl⟩, trivial⟩ rfl rfl rfl ?_
            (conv => arg 4; whnf); repeat (refine ⟨rfl, ?_⟩; conv => arg 4; whnf)
            refine ⟨fun h' => absurd h' (by simp), fun _ => ?_⟩
            (conv => arg 4; whnf); repeat (refine ⟨rfl, ?_⟩; conv => arg 4; whnf)
            exact ⟨⟨i + 1, at_, corr + 1, hlt, by omega, ha⟩, by show l.length - (i + 1) < l.length - i; omega, WkG.of rfl rfl ⟨Le.of_eq (succ_i64 (by omega)), Le.refl _ _, Le.refl _ _, Le.refl _ _, trivial⟩ ⟨⟨_, rfl, LeO.refl _ _⟩, trivial⟩ ⟨rfl, rfl, rfl, Cl.batsV _ _, trivial⟩ ⟨⟨by decide, rfl⟩, trivial⟩⟩
          | cons r rs =>
            have hr0 : x.recs[0]? = some r := by rw [hxr]; rfl
            by_cases hlt8 : r.off < at_
            · have e0 : late x.recs at_ = true := by rw [hxr]; simpa [late] using hlt8
              rw [e0, if_pos rfl] at c
              refine callG [0] c rfl ⟨⟨by decide, rfl⟩, trivial⟩ (argsG (Cl.rsV (Cl.bs _))) (Cl.tup (ClL.cons (Cl.recsV _) (ClL.cons (Cl.int _ _) ClL.nil)) _) rfl ?_
              (conv => arg 4; whnf); repeat (refine ⟨rfl, ?_⟩; conv => arg 4; whnf)
              refine ⟨fun h' => absurd h' (by simp), fun _ => ?_⟩
              (conv => arg 4; whnf); repeat (refine ⟨rfl, ?_⟩; conv => arg 4; whnf)
              refine ⟨x.av, ⟨by omega, bats_get hx⟩, ?_⟩
              (conv => arg 4; whnf); repeat (refine ⟨rfl, ?_⟩; conv => arg 4; whnf)
              refine ⟨x.av, ctxP_of ⟨by omega, bats_get hx⟩, ?_⟩
              conv => arg 4; whnf
              refine ⟨r.av, ctxP_of ⟨by omega, recs_get hr0⟩, ?_⟩
              conv => arg 4; whnf
              refine ⟨fun _ => ?_, fun h' => absurd h' (by rw [hxr]; simp [recsL, hlt8])⟩
              (conv => arg 4; whnf); repeat (refine ⟨rfl, ?_⟩; conv => arg 4; whnf)
              refine ⟨fun h' => absurd h' (by simp [recsL]), fun _ => ?_⟩
              (conv => arg 4; whnf); repeat (refine ⟨rfl, ?_⟩; conv => arg 4; whnf)
              refine callG [0] (ctOffset (t := [116]) (part := 0) (off := at_) (corr := (corr : Int) + 1)) rfl ⟨⟨by decide, rfl⟩, trivial⟩ rfl rfl rfl ?_
              (conv => arg 4; whnf); repeat (refine ⟨rfl, ?_⟩; conv => arg 4; whnf)
              refine ⟨fun h' => absurd h' (by simp), fun _ => ?_⟩
              (conv => arg 4; whnf); repeat (refine ⟨rfl, ?_⟩; conv => arg 4; whnf)
              exact ⟨⟨i + 1, at_, corr + 1, hlt, by omega, ha⟩, by show l.length - (i + 1) < l.length - i; omega, WkG.of rfl rfl ⟨Le.of_eq (succ_i64 (by omega)), Le.refl _ _, Le.refl _ _, Le.refl _ _, trivial⟩ ⟨⟨_, rfl, LeO.refl _ _⟩, trivial⟩ ⟨rfl, rfl, rfl, Cl.batsV _ _, trivial⟩ ⟨⟨by decide, rfl⟩, trivial⟩⟩
            · have e0 : late x.recs at_ = false := by rw [hxr]; simpa [late] using hlt8
              rw [e0, if_neg (by decide)] at c
              refine callG [0] c rfl ⟨⟨by decide, rfl⟩, trivial⟩ (argsG (Cl.rsV (Cl.bs _))) (Cl.tup (ClL.cons (Cl.recsV _) (ClL.cons (Cl.int _ _) ClL.nil)) _) rfl ?_
              (conv => arg 4; whnf); repeat (refine ⟨rfl, ?_⟩; conv => arg 4; whnf)
              refine ⟨fun h' => absurd h' (by simp), fun _ => ?_⟩
              (conv => arg 4; whnf); repeat (refine ⟨rfl, ?_⟩; conv => arg 4; whnf)
              refine ⟨x.av, ⟨by omega, bats_get hx⟩, ?_⟩
              (conv => arg 4; whnf); repeat (refine ⟨rfl, ?_⟩; conv => arg 4; whnf)
              refine ⟨x.av, ctxP_of ⟨by omega, bats_get hx⟩, ?_⟩
              conv => arg 4; whnf
              refine ⟨r.av, ctxP_of ⟨by omega, recs_get hr0⟩, ?_⟩
              conv => arg 4; whnf
              refine ⟨fun h' => absurd h' (by rw [hxr]; simp [recsL]; omega), fun _ => ?_⟩
              (conv => arg 4; whnf); repeat (refine ⟨rfl, ?_⟩; conv => arg 4; whnf)
              refine ⟨x.av, ctxP_of ⟨by omega, bats_get hx⟩, ?_⟩
              conv => arg 4; whnf
              refine ⟨fun h' => absurd h' (by simp), fun _ => ?_⟩
              (conv => arg 4; whnf); repeat (refine ⟨rfl, ?_⟩; conv => arg 4; whnf)
              refine call0 (refSameRecs (a := x.recs) (b := x.recs) (by omega)) (ClL.cons (Cl.recsV _) (ClL.cons (Cl.recsV _) ClL.nil)) (by (repeat' (first | with_reducible assumption | exact ClL.nil | exact Cl.int _ _ | exact Cl.bool _ | exact Cl.bl _ | exact Cl.bs _ | exact Cl.str _ | exact Cl.nils | exact Cl.nilp | exact Cl.rec _ | exact Cl.bat _ | exact Cl.recsV _ | exact Cl.strsV _ | exact Cl.intsV _ | exact Cl.req _ | exact Cl.rsp _ | exact Cl.reqA _ | exact Cl.rspA _ | exact Cl.batsV _ | exact Cl.getB _ | exact Cl.encA _ | exact Cl.firstA _ | refine ClL.cons ?_ ?_ | refine Cl.tup ?_ | refine Cl.agg ?_ | exact ClO.RO _ _))) ?_
              (conv => arg 4; whnf); repeat (refine ⟨rfl, ?_⟩; conv => arg 4; whnf)
              refine ⟨fun h' => absurd h' (by simp), fun _ => ?_⟩
              (conv => arg 4; whnf); repeat (refine ⟨rfl, ?_⟩; conv => arg 4; whnf)
              refine ⟨fun _ => ?_, fun h' => absurd h' (by rw [hxr]; simp [recsL])⟩
              (conv => arg 4; whnf); repeat (refine ⟨rfl, ?_⟩; conv => arg 4; whnf)
              have hf := (chk_fine hk).1
              obtain ⟨y, hy⟩ : ∃ y, x.recs[x.recs.length - 1]? = some y := ⟨_, List.getElem?_eq_getElem (by rw [hxr]; simp)⟩
              have hyl : x.recs.getLast? = some y := by rw [List.getLast?_eq_getElem?]; exact hy
              have hny : nextO x.recs at_ = y.off + 1 := by rw [nextO, hyl]
              have hyb : 0 ≤ y.off ∧ y.off ≤ 4611686018427387904 := by
                have h1 := hf.recs y (List.mem_of_getElem? hy)
                have h2 := hf.head
                unfold HeadBad at h2
                unfold Rec.fine at h1
                omega
              have hyo : IntKind.i64.wrap (y.off + 1) = y.off + 1 := by rw [IntKind.wrap_i64]; omega
              have hix : IntKind.i64.wrap (((recsL x.recs).length : Int) - 1) = ((x.recs.length - 1 : Nat) : Int) := by
                have : 0 < x.recs.length := by rw [hxr]; simp
                rw [recs_length, IntKind.wrap_i64]; omega
              refine ⟨x.av, ⟨by omega, bats_get hx⟩, ?_⟩
              (conv => arg 4; whnf); repeat (refine ⟨rfl, ?_⟩; conv => arg 4; whnf)
              refine ⟨y.av, ⟨by rw [hix]; omega, by rw [hix]; exact recs_get hy⟩, ?_⟩
              (conv => arg 4; whnf); repeat (refine ⟨rfl, ?_⟩; conv => arg 4; whnf)
              refine callG [0] (ctOffset (t := [116]) (part := 0) (off := nextO x.recs at_) (corr := (corr : Int) + 1)) rfl ⟨⟨by decide, rfl⟩, trivial⟩ rfl rfl rfl ?_
              (conv => arg 4; whnf); repeat (refine ⟨rfl, ?_⟩; conv => arg 4; whnf)
              refine ⟨fun h' => absurd h' (by rw [hny, hyo]; simp), fun _ => ?_⟩
              (conv => arg 4; whnf); repeat (refine ⟨rfl, ?_⟩; conv => arg 4; whnf)
              exact ⟨⟨i + 1, nextO x.recs at_, corr + 1, hlt, by omega, by rw [hny]; omega⟩, by show l.length - (i + 1) < l.length - i; omega, WkG.of rfl rfl ⟨Le.of_eq (succ_i64 (by omega)), Le.of_eq (show AV.int .i64 (IntKind.i64.wrap (y.off + 1)) = AV.int .i64 (nextO x.recs at_) by rw [hny, hyo]), Le.refl _ _, Le.refl _ _, trivial⟩ ⟨⟨_, rfl, LeO.refl _ _⟩, trivial⟩ ⟨rfl, rfl, rfl, Cl.batsV _ _, trivial⟩ ⟨⟨by decide, rfl⟩, trivial⟩⟩
        · rw [encA_no hk]
          (conv => arg 4; whnf); repeat (refine ⟨rfl, ?_⟩; conv => arg 4; whnf)
          refine ⟨fun _ => ?_, fun h' => absurd h' (by simpa using hk)⟩
          (conv => arg 4; whnf); repeat (refine ⟨rfl, ?_⟩; conv => arg 4; whnf)
          exact ⟨⟨i + 1, at_, corr, hlt, by omega, ha⟩, by show l.length - (i + 1) < l.length - i; omega, WkG.of rfl rfl ⟨Le.of_eq (succ_i64 (by omega)), Le.refl _ _, Le.refl _ _, Le.refl _ _, trivial⟩ ⟨⟨_, rfl, LeO.refl _ _⟩, trivial⟩ ⟨rfl, rfl, rfl, Cl.batsV _ _, trivial⟩ ⟨⟨by decide, rfl⟩, trivial⟩⟩
    · (conv => arg 4; whnf); repeat (refine ⟨rfl, ?_⟩; conv => arg 4; whnf)
      refine fin_exit ?_
      show holds _ _ _ _
      conv => arg 4; whnf
      refine call0 awake24 (by (repeat' (first | with_reducible assumption | exact ClL.nil | exact Cl.int _ _ | exact Cl.bool _ | exact Cl.bl _ | exact Cl.bs _ | exact Cl.str _ | exact Cl.nils | exact Cl.nilp | exact Cl.rec _ | exact Cl.bat _ | exact Cl.recsV _ | exact Cl.strsV _ | exact Cl.intsV _ | exact Cl.req _ | exact Cl.rsp _ | exact Cl.reqA _ | exact Cl.rspA _ | exact Cl.batsV _ | exact Cl.getB _ | exact Cl.encA _ | exact Cl.firstA _ | refine ClL.cons ?_ ?_ | refine Cl.tup ?_ | refine Cl.agg ?_ | exact ClO.RO _ _))) (by (repeat' (first | with_reducible assumption | exact ClL.nil | exact Cl.int _ _ | exact Cl.bool _ | exact Cl.bl _ | exact Cl.bs _ | exact Cl.str _ | exact Cl.nils | exact Cl.nilp | exact Cl.rec _ | exact Cl.bat _ | exact Cl.recsV _ | exact Cl.strsV _ | exact Cl.intsV _ | exact Cl.req _ | exact Cl.rsp _ | exact Cl.reqA _ | exact Cl.rspA _ | exact Cl.batsV _ | exact Cl.getB _ | exact Cl.encA _ | exact Cl.firstA _ | refine ClL.cons ?_ ?_ | refine Cl.tup ?_ | refine Cl.agg ?_ | exact ClO.RO _ _))) ?_
      (conv => arg 4; whnf); repeat (refine ⟨rfl, ?_⟩; conv => arg 4; whnf)
      exact .inl rfl
end Go.Proofs.Ythclmkhkchbpiaa.Ct

namespace Go.Proofs.Ythclmkhkchbpiaa
set_option maxRecDepth 100000
set_option maxHeartbeats 80000000
open Go.Sym

def boolsL (l : List Bool) : List AV := l.map AV.bl
theorem ren_boolsL (ρ : Nat → Nat) (l : List Bool) : renL ρ (boolsL l) = boolsL l := by
  induction l with
  | nil => rfl
  | cons x l ih => show ren ρ (.bl x) :: renL ρ (boolsL l) = _; rw [ih]; rfl
theorem boolsL_get {l : List Bool} {i : Nat} {x : Bool} (h : l[i]? = some x) : (boolsL l)[((i : Nat) : Int).toNat]? = some (.bl x) := by simp [boolsL, h]
theorem Cl.boolsL (l : List Bool) : Cl (.sl .none 0 (boolsL l)) := Cl.sl (fun ρ => ren_boolsL ρ l)

theorem gaps_size {x y n : Nat} (h : x ≤ y + 9 * n) (hy : y ≤ 65536) (hn : n ≤ 1000) : decide ((x : Int) ≤ IntKind.i64.wrap ((y : Int) + IntKind.i64.wrap (9 * (n : Int)))) = true := by
  rw [IntKind.wrap_i64, IntKind.wrap_i64]
  simp only [decide_eq_true_eq]
  omega

structure GpI (b : Bat) (ks : List Bool) where
  i : Nat
  s : Nat
  hi : i ≤ b.recs.length

theorem lawGaps {b : Bat} {ks : List Bool} (hb : b.recs.length ≤ 1000000000000000) : CallOK Try.prog 12 [b.av, .sl .none 0 (boolsL ks)] [] 0 Tru := by
  refine callOK Try.call12 Try.func12 Try.ntmps12 rfl ?_
  conv => arg 4; whnf
  refine call0E (alikeBatch hb) (by (repeat' (first | with_reducible assumption | exact ClL.nil | exact Cl.int _ _ | exact Cl.bool _ | exact Cl.bl _ | exact Cl.bs _ | exact Cl.str _ | exact Cl.nils | exact Cl.nilp | exact Cl.rec _ | exact Cl.bat _ | exact Cl.recsV _ | exact Cl.strsV _ | exact Cl.intsV _ | exact Cl.req _ | exact Cl.rsp _ | exact Cl.reqA _ | exact Cl.rspA _ | exact Cl.batsV _ | exact Cl.getB _ | exact Cl.encA _ | exact Cl.firstA _ | refine ClL.cons ?_ ?_ | refine Cl.tup ?_ | refine Cl.agg ?_ | exact ClO.RO _ _))) (fun x => by (repeat' (first | with_reducible assumption | exact ClL.nil | exact Cl.int _ _ | exact Cl.bool _ | exact Cl.bl _ | exact Cl.bs _ | exact Cl.str _ | exact Cl.nils | exact Cl.nilp | exact Cl.rec _ | exact Cl.bat _ | exact Cl.recsV _ | exact Cl.strsV _ | exact Cl.intsV _ | exact Cl.req _ | exact Cl.rsp _ | exact Cl.reqA _ | exact Cl.rspA _ | exact Cl.batsV _ | exact Cl.getB _ | exact Cl.encA _ | exact Cl.firstA _ | refine ClL.cons ?_ ?_ | refine Cl.tup ?_ | refine Cl.agg ?_ | exact ClO.RO _ _))) fun n hn => ?_
  (conv => arg 4; whnf); repeat (refine ⟨rfl, ?_⟩; conv => arg 4; whnf)
  refine ⟨fun h => ?_, fun h => ?_⟩
  · (conv => arg 4; whnf); repeat (refine ⟨rfl, ?_⟩; conv => arg 4; whnf)
    refine call0 awake5 (by (repeat' (first | with_reducible assumption | exact ClL.nil | exact Cl.int _ _ | exact Cl.bool _ | exact Cl.bl _ | exact Cl.bs _ | exact Cl.str _ | exact Cl.nils | exact Cl.nilp | exact Cl.rec _ | exact Cl.bat _ | exact Cl.recsV _ | exact Cl.strsV _ | exact Cl.intsV _ | exact Cl.req _ | exact Cl.rsp _ | exact Cl.reqA _ | exact Cl.rspA _ | exact Cl.batsV _ | exact Cl.getB _ | exact Cl.encA _ | exact Cl.firstA _ | refine ClL.cons ?_ ?_ | refine Cl.tup ?_ | refine Cl.agg ?_ | exact ClO.RO _ _))) (by (repeat' (first | with_reducible assumption | exact ClL.nil | exact Cl.int _ _ | exact Cl.bool _ | exact Cl.bl _ | exact Cl.bs _ | exact Cl.str _ | exact Cl.nils | exact Cl.nilp | exact Cl.rec _ | exact Cl.bat _ | exact Cl.recsV _ | exact Cl.strsV _ | exact Cl.intsV _ | exact Cl.req _ | exact Cl.rsp _ | exact Cl.reqA _ | exact Cl.rspA _ | exact Cl.batsV _ | exact Cl.getB _ | exact Cl.encA _ | exact Cl.firstA _ | refine ClL.cons ?_ ?_ | refine Cl.tup ?_ | refine Cl.agg ?_ | exact ClO.RO _ _))) ?_
    (conv => arg 4; whnf); repeat (refine ⟨rfl, ?_⟩; conv => arg 4; whnf)
    exact .inl rfl
  · rw [recs_length] at h
    rw [← Bool.not_eq_true] at h; simp only [Bool.cond_true_left, Bool.cond_false_right, Bool.or_eq_true, Bool.and_eq_true, Bool.not_eq_true', decide_eq_true_eq, beq_iff_eq, bne_iff_ne, u8s_length, gt_iff_lt, ge_iff_le] at h
    have wb := weighs_le hn (by omega)
    have lb := wtR_length b.recs
    (conv => arg 4; whnf); repeat (refine ⟨rfl, ?_⟩; conv => arg 4; whnf)
    refine call0 (refCheck (by omega)) (by (repeat' (first | with_reducible assumption | exact ClL.nil | exact Cl.int _ _ | exact Cl.bool _ | exact Cl.bl _ | exact Cl.bs _ | exact Cl.str _ | exact Cl.nils | exact Cl.nilp | exact Cl.rec _ | exact Cl.bat _ | exact Cl.recsV _ | exact Cl.strsV _ | exact Cl.intsV _ | exact Cl.req _ | exact Cl.rsp _ | exact Cl.reqA _ | exact Cl.rspA _ | exact Cl.batsV _ | exact Cl.getB _ | exact Cl.encA _ | exact Cl.firstA _ | refine ClL.cons ?_ ?_ | refine Cl.tup ?_ | refine Cl.agg ?_ | exact ClO.RO _ _))) (by (repeat' (first | with_reducible assumption | exact ClL.nil | exact Cl.int _ _ | exact Cl.bool _ | exact Cl.bl _ | exact Cl.bs _ | exact Cl.str _ | exact Cl.nils | exact Cl.nilp | exact Cl.rec _ | exact Cl.bat _ | exact Cl.recsV _ | exact Cl.strsV _ | exact Cl.intsV _ | exact Cl.req _ | exact Cl.rsp _ | exact Cl.reqA _ | exact Cl.rspA _ | exact Cl.batsV _ | exact Cl.getB _ | exact Cl.encA _ | exact Cl.firstA _ | refine ClL.cons ?_ ?_ | refine Cl.tup ?_ | refine Cl.agg ?_ | exact ClO.RO _ _))) ?_
    (conv => arg 4; whnf); repeat (refine ⟨rfl, ?_⟩; conv => arg 4; whnf)
    refine ⟨fun hc => ?_, fun hc => ?_⟩
    · (conv => arg 4; whnf); repeat (refine ⟨rfl, ?_⟩; conv => arg 4; whnf)
      refine call0 awake5 (by (repeat' (first | with_reducible assumption | exact ClL.nil | exact Cl.int _ _ | exact Cl.bool _ | exact Cl.bl _ | exact Cl.bs _ | exact Cl.str _ | exact Cl.nils | exact Cl.nilp | exact Cl.rec _ | exact Cl.bat _ | exact Cl.recsV _ | exact Cl.strsV _ | exact Cl.intsV _ | exact Cl.req _ | exact Cl.rsp _ | exact Cl.reqA _ | exact Cl.rspA _ | exact Cl.batsV _ | exact Cl.getB _ | exact Cl.encA _ | exact Cl.firstA _ | refine ClL.cons ?_ ?_ | refine Cl.tup ?_ | refine Cl.agg ?_ | exact ClO.RO _ _))) (by (repeat' (first | with_reducible assumption | exact ClL.nil | exact Cl.int _ _ | exact Cl.bool _ | exact Cl.bl _ | exact Cl.bs _ | exact Cl.str _ | exact Cl.nils | exact Cl.nilp | exact Cl.rec _ | exact Cl.bat _ | exact Cl.recsV _ | exact Cl.strsV _ | exact Cl.intsV _ | exact Cl.req _ | exact Cl.rsp _ | exact Cl.reqA _ | exact Cl.rspA _ | exact Cl.batsV _ | exact Cl.getB _ | exact Cl.encA _ | exact Cl.firstA _ | refine ClL.cons ?_ ?_ | refine Cl.tup ?_ | refine Cl.agg ?_ | exact ClO.RO _ _))) ?_
      (conv => arg 4; whnf); repeat (refine ⟨rfl, ?_⟩; conv => arg 4; whnf)
      exact .inl rfl
    · have hc : b.chk = 0 := by simpa using hc
      (conv => arg 4; whnf); repeat (refine ⟨rfl, ?_⟩; conv => arg 4; whnf)
      refine tri_loopG (ι := GpI b ks) (fun a => ⟨[(6, .int .i64 a.i), (5, .ptr 1 0), (2, .ptr 0 0), (1, .sl .none 0 (boolsL ks))], [(2, .tip a.s), (1, .cells [.int .i64 b.base, .int .i64 b.last, .int .i64 b.prod, .int .i64 b.epoch, .int .i64 b.seq, .sl (.tok 2 a.s) 6 (recsL (kept (b.recs.take a.i) ks))]), (0, batO b)], 3, 114⟩) (fun a => b.recs.length - a.i) ⟨0, 0, Nat.zero_le _⟩ (WkG.tok rfl rfl ⟨Le.refl _ _, Le.refl _ _, Le.refl _ _, Le.refl _ _, trivial⟩ ⟨⟨_, rfl, rfl⟩, ⟨_, rfl, LeL.cons (Le.refl _ _) (LeL.cons (Le.refl _ _) (LeL.cons (Le.refl _ _) (LeL.cons (Le.refl _ _) (LeL.cons (Le.refl _ _) (LeL.cons (Le.nilsTok rfl) (LeL.nil _))))))⟩, ⟨_, rfl, LeO.refl _ _⟩, trivial⟩ ⟨rfl, rfl, rfl, Cl.boolsL ks _, trivial⟩ ⟨⟨by decide, rfl⟩, ⟨by decide, rfl⟩, ⟨by decide, renO_batO _ _⟩, trivial⟩) ?_
      rintro ⟨i, s, hi⟩
      dsimp only
      conv => arg 4; whnf
      refine ⟨fun hlt => ?_, fun hlt => ?_⟩
      · have hlt : i < b.recs.length := by rw [recs_length] at hlt; simp at hlt; omega
        obtain ⟨x, hx⟩ : ∃ x, b.recs[i]? = some x := ⟨_, List.getElem?_eq_getElem hlt⟩
        have hg := recs_get hx
        have hkt := kept_take (ks := ks) hx
        (conv => arg 4; whnf); repeat (refine ⟨rfl, ?_⟩; conv => arg 4; whnf)
        refine ⟨.bl (ks[i]?.getD false), fun (h : decide ((i : Int) < ((boolsL ks).length : Int)) = true) => ⟨by omega, ?_⟩, ?_⟩
        · have h : i < ks.length := by simp [boolsL] at h; omega
          obtain ⟨k, hk⟩ : ∃ k, ks[i]? = some k := ⟨_, List.getElem?_eq_getElem h⟩
          rw [hk]; exact boolsL_get hk
        conv => arg 4; whnf
        refine ⟨fun hk => ?_, fun hk => ?_⟩
        · have hk : ks[i]? = some true := by
            have hl : i < ks.length := by
              rcases Nat.lt_or_ge i ks.length with h | h
              · exact h
              · have : ¬ ((i : Int) < ((boolsL ks).length : Int)) := by simp [boolsL]; omega
                simp [this] at hk
            obtain ⟨k, hk'⟩ : ∃ k, ks[i]? = some k := ⟨_, List.getElem?_eq_getElem hl⟩
            rw [hk'] at hk ⊢
            cases k with
            | true => rfl
            | false => simp at hk
          rw [if_pos hk] at hkt
          (conv => arg 4; whnf); repeat (refine ⟨rfl, ?_⟩; conv => arg 4; whnf)
          refine ⟨x.av, ⟨by omega, hg⟩, ?_⟩
          (conv => arg 4; whnf); repeat (refine ⟨rfl, ?_⟩; conv => arg 4; whnf)
          refine ⟨⟨rfl, sizeOk 80 rfl ?_⟩, ?_⟩
          · have := (kept_sub (b.recs.take i) ks).length_le
            rw [List.length_append, recs_length]; simp only [List.length_cons, List.length_nil, List.length_take] at this ⊢; omega
          (conv => arg 4; whnf); repeat (refine ⟨rfl, ?_⟩; conv => arg 4; whnf)
          refine ⟨⟨i + 1, s + 1, by omega⟩, by show b.recs.length - (i + 1) < b.recs.length - i; omega, WkG.of rfl rfl ⟨Le.of_eq (succ_i64 (by omega)), Le.refl _ _, Le.refl _ _, Le.refl _ _, trivial⟩ ⟨⟨_, rfl, LeO.refl _ _⟩, ⟨_, rfl, ?_⟩, ⟨_, rfl, LeO.refl _ _⟩, trivial⟩ ⟨rfl, rfl, rfl, Cl.boolsL ks _, trivial⟩ ⟨⟨by decide, rfl⟩, ⟨by decide, ?_⟩, ⟨by decide, renO_batO _ _⟩, trivial⟩⟩
          · have e : recsL (kept (b.recs.take i) ks ++ [x]) = recsL (kept (b.recs.take i) ks) ++ [x.av] := by simp [recsL]
            rw [hkt, e]; exact LeL.refl _ _
          · simp only [renO, renL, ren, ren_recs, renP, cut_lt (show 2 < 3 by decide)]
        · have hk : ¬ ks[i]? = some true := fun h => by
            have hl : i < ks.length := by
              rcases Nat.lt_or_ge i ks.length with h' | h'
              · exact h'
              · rw [List.getElem?_eq_none h'] at h; cases h
            have : ((i : Int) < ((boolsL ks).length : Int)) := by simp [boolsL]; omega
            rw [h] at hk
            simp [this] at hk
          rw [if_neg hk, List.append_nil] at hkt
          conv => arg 4; whnf
          refine ⟨⟨i + 1, s, by omega⟩, by show b.recs.length - (i + 1) < b.recs.length - i; omega, WkG.of rfl rfl ⟨Le.of_eq (succ_i64 (by omega)), Le.refl _ _, Le.refl _ _, Le.refl _ _, trivial⟩ ⟨⟨_, rfl, LeO.refl _ _⟩, ⟨_, rfl, ?_⟩, ⟨_, rfl, LeO.refl _ _⟩, trivial⟩ ⟨rfl, rfl, rfl, Cl.boolsL ks _, trivial⟩ ⟨⟨by decide, rfl⟩, ⟨by decide, ?_⟩, ⟨by decide, renO_batO _ _⟩, trivial⟩⟩
          · rw [hkt]; exact LeL.refl _ _
          · simp only [renO, renL, ren, ren_recs, renP, cut_lt (show 2 < 3 by decide)]
      · have hlt : i = b.recs.length := by rw [recs_length] at hlt; simp at hlt; omega
        subst hlt
        conv => arg 4; whnf
        refine fin_exit ?_
        show holds _ _ _ _
        conv => arg 4; whnf
        rw [List.take_length]
        obtain ⟨c, hcc⟩ : ∃ c : Bat, c = ⟨b.base, b.last, b.prod, b.epoch, b.seq, kept b.recs ks⟩ := ⟨_, rfl⟩
        have hsub : c.recs.Sublist b.recs := by rw [hcc]; exact kept_sub _ _
        have hsl := hsub.length_le
        have hav : ∀ h, Le h (.agg [.int .i64 b.base, .int .i64 b.last, .int .i64 b.prod, .int .i64 b.epoch, .int .i64 b.seq, .sl (.tok 2 s) 6 (recsL (kept b.recs ks))]) c.av := fun h => by rw [hcc]; show Le _ _ (.agg _); (repeat' (first | with_reducible exact Le.refl _ _ | exact Le.bl | exact Le.lb | exact Le.nils | exact Le.nilsFull | exact Le.none | exact LeL.nil _ | refine LeL.cons ?_ ?_ | refine Le.tup ?_ | refine Le.agg ?_ | exact Le.refl _ _ | exact LeL.refl _ _))
        have hck := chk_sub hc (by omega) (c := c) (by rw [hcc]) (by rw [hcc]) (by rw [hcc]) (by rw [hcc]) (by rw [hcc]) hsub
        have hcd := dec_is hck.1
        conv => arg 4; whnf
        refine holds_args (args' := [c.av]) ⟨hav _, trivial⟩ ?_
        refine call0 (batEnc (by omega)) (by (repeat' (first | with_reducible assumption | exact ClL.nil | exact Cl.int _ _ | exact Cl.bool _ | exact Cl.bl _ | exact Cl.bs _ | exact Cl.str _ | exact Cl.nils | exact Cl.nilp | exact Cl.rec _ | exact Cl.bat _ | exact Cl.recsV _ | exact Cl.strsV _ | exact Cl.intsV _ | exact Cl.req _ | exact Cl.rsp _ | exact Cl.reqA _ | exact Cl.rspA _ | exact Cl.batsV _ | exact Cl.getB _ | exact Cl.encA _ | exact Cl.firstA _ | refine ClL.cons ?_ ?_ | refine Cl.tup ?_ | refine Cl.agg ?_ | exact ClO.RO _ _))) (Cl.encA c) ?_
        rw [encA_yes hck.1]
        (conv => arg 4; whnf); repeat (refine ⟨rfl, ?_⟩; conv => arg 4; whnf)
        refine call0 (batDecode (p := c.enc) (by have := (chk_fine hck.1).2.1; omega)) (by (repeat' (first | with_reducible assumption | exact ClL.nil | exact Cl.int _ _ | exact Cl.bool _ | exact Cl.bl _ | exact Cl.bs _ | exact Cl.str _ | exact Cl.nils | exact Cl.nilp | exact Cl.rec _ | exact Cl.bat _ | exact Cl.recsV _ | exact Cl.strsV _ | exact Cl.intsV _ | exact Cl.req _ | exact Cl.rsp _ | exact Cl.reqA _ | exact Cl.rspA _ | exact Cl.batsV _ | exact Cl.getB _ | exact Cl.encA _ | exact Cl.firstA _ | refine ClL.cons ?_ ?_ | refine Cl.tup ?_ | refine Cl.agg ?_ | exact ClO.RO _ _))) (by (repeat' (first | with_reducible assumption | exact ClL.nil | exact Cl.int _ _ | exact Cl.bool _ | exact Cl.bl _ | exact Cl.bs _ | exact Cl.str _ | exact Cl.nils | exact Cl.nilp | exact Cl.rec _ | exact Cl.bat _ | exact Cl.recsV _ | exact Cl.strsV _ | exact Cl.intsV _ | exact Cl.req _ | exact Cl.rsp _ | exact Cl.reqA _ | exact Cl.rspA _ | exact Cl.batsV _ | exact Cl.getB _ | exact Cl.encA _ | exact Cl.firstA _ | refine ClL.cons ?_ ?_ | refine Cl.tup ?_ | refine Cl.agg ?_ | exact ClO.RO _ _))) ?_
        rw [hcd.1, hcd.2]
        (conv => arg 4; whnf); repeat (refine ⟨rfl, ?_⟩; conv => arg 4; whnf)
        refine ⟨fun _ => ?_, fun h => absurd h (by first | (simp; done) | (simp [u8s]; done))⟩
        conv => arg 4; whnf
        refine ⟨fun _ => ?_, fun h => absurd h (by first | (simp; done) | (simp [u8s]; done))⟩
        conv => arg 4; whnf
        refine holds_args (args' := [c.av, c.av]) ⟨hav _, Le.refl _ _, trivial⟩ ?_
        refine call0 (batSame (a := c) (b := c) (by omega)) (by (repeat' (first | with_reducible assumption | exact ClL.nil | exact Cl.int _ _ | exact Cl.bool _ | exact Cl.bl _ | exact Cl.bs _ | exact Cl.str _ | exact Cl.nils | exact Cl.nilp | exact Cl.rec _ | exact Cl.bat _ | exact Cl.recsV _ | exact Cl.strsV _ | exact Cl.intsV _ | exact Cl.req _ | exact Cl.rsp _ | exact Cl.reqA _ | exact Cl.rspA _ | exact Cl.batsV _ | exact Cl.getB _ | exact Cl.encA _ | exact Cl.firstA _ | refine ClL.cons ?_ ?_ | refine Cl.tup ?_ | refine Cl.agg ?_ | exact ClO.RO _ _))) (by (repeat' (first | with_reducible assumption | exact ClL.nil | exact Cl.int _ _ | exact Cl.bool _ | exact Cl.bl _ | exact Cl.bs _ | exact Cl.str _ | exact Cl.nils | exact Cl.nilp | exact Cl.rec _ | exact Cl.bat _ | exact Cl.recsV _ | exact Cl.strsV _ | exact Cl.intsV _ | exact Cl.req _ | exact Cl.rsp _ | exact Cl.reqA _ | exact Cl.rspA _ | exact Cl.batsV _ | exact Cl.getB _ | exact Cl.encA _ | exact Cl.firstA _ | refine ClL.cons ?_ ?_ | refine Cl.tup ?_ | refine Cl.agg ?_ | exact ClO.RO _ _))) ?_
        (conv => arg 4; whnf); repeat (refine ⟨rfl, ?_⟩; conv => arg 4; whnf)
        refine ⟨fun _ => ?_, fun h => absurd h (by first | (simp; done) | (simp [u8s]; done))⟩
        conv => arg 4; whnf
        have q1 : (c.base == b.base) = true := by rw [hcc]; simp
        refine ⟨fun _ => ?_, fun h' => absurd (q1.symm.trans h') (by decide)⟩
        (conv => arg 4; whnf); repeat (refine ⟨rfl, ?_⟩; conv => arg 4; whnf)
        have q2 : (c.last == b.last) = true := by rw [hcc]; simp
        refine ⟨fun _ => ?_, fun h' => absurd (q2.symm.trans h') (by decide)⟩
        (conv => arg 4; whnf); repeat (refine ⟨rfl, ?_⟩; conv => arg 4; whnf)
        have q3 : (((recsL c.recs).length : Int) == ((recsL (kept b.recs ks)).length : Int)) = true := by rw [hcc]; simp
        refine ⟨fun _ => ?_, fun h' => absurd (q3.symm.trans h') (by decide)⟩
        (conv => arg 4; whnf); repeat (refine ⟨rfl, ?_⟩; conv => arg 4; whnf)
        refine holds_args (args' := [c.av]) ⟨hav _, trivial⟩ ?_
        refine call0 (batSize (b := c) (by omega)) (by (repeat' (first | with_reducible assumption | exact ClL.nil | exact Cl.int _ _ | exact Cl.bool _ | exact Cl.bl _ | exact Cl.bs _ | exact Cl.str _ | exact Cl.nils | exact Cl.nilp | exact Cl.rec _ | exact Cl.bat _ | exact Cl.recsV _ | exact Cl.strsV _ | exact Cl.intsV _ | exact Cl.req _ | exact Cl.rsp _ | exact Cl.reqA _ | exact Cl.rspA _ | exact Cl.batsV _ | exact Cl.getB _ | exact Cl.encA _ | exact Cl.firstA _ | refine ClL.cons ?_ ?_ | refine Cl.tup ?_ | refine Cl.agg ?_ | exact ClO.RO _ _))) (by (repeat' (first | with_reducible assumption | exact ClL.nil | exact Cl.int _ _ | exact Cl.bool _ | exact Cl.bl _ | exact Cl.bs _ | exact Cl.str _ | exact Cl.nils | exact Cl.nilp | exact Cl.rec _ | exact Cl.bat _ | exact Cl.recsV _ | exact Cl.strsV _ | exact Cl.intsV _ | exact Cl.req _ | exact Cl.rsp _ | exact Cl.reqA _ | exact Cl.rspA _ | exact Cl.batsV _ | exact Cl.getB _ | exact Cl.encA _ | exact Cl.firstA _ | refine ClL.cons ?_ ?_ | refine Cl.tup ?_ | refine Cl.agg ?_ | exact ClO.RO _ _))) ?_
        (conv => arg 4; whnf); repeat (refine ⟨rfl, ?_⟩; conv => arg 4; whnf)
        refine call0 (batSize (b := b) (by omega)) (by (repeat' (first | with_reducible assumption | exact ClL.nil | exact Cl.int _ _ | exact Cl.bool _ | exact Cl.bl _ | exact Cl.bs _ | exact Cl.str _ | exact Cl.nils | exact Cl.nilp | exact Cl.rec _ | exact Cl.bat _ | exact Cl.recsV _ | exact Cl.strsV _ | exact Cl.intsV _ | exact Cl.req _ | exact Cl.rsp _ | exact Cl.reqA _ | exact Cl.rspA _ | exact Cl.batsV _ | exact Cl.getB _ | exact Cl.encA _ | exact Cl.firstA _ | refine ClL.cons ?_ ?_ | refine Cl.tup ?_ | refine Cl.agg ?_ | exact ClO.RO _ _))) (by (repeat' (first | with_reducible assumption | exact ClL.nil | exact Cl.int _ _ | exact Cl.bool _ | exact Cl.bl _ | exact Cl.bs _ | exact Cl.str _ | exact Cl.nils | exact Cl.nilp | exact Cl.rec _ | exact Cl.bat _ | exact Cl.recsV _ | exact Cl.strsV _ | exact Cl.intsV _ | exact Cl.req _ | exact Cl.rsp _ | exact Cl.reqA _ | exact Cl.rspA _ | exact Cl.batsV _ | exact Cl.getB _ | exact Cl.encA _ | exact Cl.firstA _ | refine ClL.cons ?_ ?_ | refine Cl.tup ?_ | refine Cl.agg ?_ | exact ClO.RO _ _))) ?_
        (conv => arg 4; whnf); repeat (refine ⟨rfl, ?_⟩; conv => arg 4; whnf)
        have q4 : decide ((c.out.length : Int) ≤ IntKind.i64.wrap ((b.out.length : Int) + IntKind.i64.wrap (9 * ((recsL b.recs).length : Int)))) = true := by
          have l1 := (chk_fine hc).2.1
          have l2 := hck.2
          have l3 := (chk_fine hc).1.few
          rw [out_yes hck.1, out_yes hc, recs_length]
          exact gaps_size l2 l1 (by omega)
        refine ⟨fun _ => ?_, fun h' => absurd (q4.symm.trans h') (by decide)⟩
        (conv => arg 4; whnf); repeat (refine ⟨rfl, ?_⟩; conv => arg 4; whnf)
        refine call0 awake5 (by (repeat' (first | with_reducible assumption | exact ClL.nil | exact Cl.int _ _ | exact Cl.bool _ | exact Cl.bl _ | exact Cl.bs _ | exact Cl.str _ | exact Cl.nils | exact Cl.nilp | exact Cl.rec _ | exact Cl.bat _ | exact Cl.recsV _ | exact Cl.strsV _ | exact Cl.intsV _ | exact Cl.req _ | exact Cl.rsp _ | exact Cl.reqA _ | exact Cl.rspA _ | exact Cl.batsV _ | exact Cl.getB _ | exact Cl.encA _ | exact Cl.firstA _ | refine ClL.cons ?_ ?_ | refine Cl.tup ?_ | refine Cl.agg ?_ | exact ClO.RO _ _))) (by (repeat' (first | with_reducible assumption | exact ClL.nil | exact Cl.int _ _ | exact Cl.bool _ | exact Cl.bl _ | exact Cl.bs _ | exact Cl.str _ | exact Cl.nils | exact Cl.nilp | exact Cl.rec _ | exact Cl.bat _ | exact Cl.recsV _ | exact Cl.strsV _ | exact Cl.intsV _ | exact Cl.req _ | exact Cl.rsp _ | exact Cl.reqA _ | exact Cl.rspA _ | exact Cl.batsV _ | exact Cl.getB _ | exact Cl.encA _ | exact Cl.firstA _ | refine ClL.cons ?_ ?_ | refine Cl.tup ?_ | refine Cl.agg ?_ | exact ClO.RO _ _))) ?_
        (conv => arg 4; whnf); repeat (refine ⟨rfl, ?_⟩; conv => arg 4; whnf)
        exact .inl rfl
end Go.Proofs.Ythclmkhkchbpiaa

namespace Go.Proofs.Ythclmkhkchbpiaa
set_option maxRecDepth 100000
set_option maxHeartbeats 80000000
open Go.Sym

theorem inv0 (W : World) : Inv (F0 W) V0 [] W :=
  ⟨fun b o x h => h, fun id o hg => by simp [Go.Sym.get] at hg, fun id o b off hg => by simp [Go.Sym.get] at hg, fun id id' o o' b hg => by simp [Go.Sym.get] at hg⟩

theorem bytes_lt {els : List AV} {n : Nat} (h : els.length * n ≤ reachBytes) (hn : 1 ≤ n) : els.length ≤ 1000000000000000 := by
  have : els.length * 1 ≤ els.length * n := Nat.mul_le_mul_left _ hn
  unfold reachBytes at h
  omega

theorem recs_of {els : List AV} (h : ∀ x ∈ els, ∃ m cs, isElem 6 x cs ∧ Sym.Good Try.prog m 68 cs) : ∃ l : List Rec, l.length = els.length ∧ LeL [] els (recsL l) := by
  induction els with
  | nil => exact ⟨[], rfl, LeL.refl _ _⟩
  | cons x els ih =>
    obtain ⟨l, hl, hle⟩ := ih fun y hy => h y (List.mem_cons_of_mem _ hy)
    obtain ⟨m, cs, he, g⟩ := h x List.mem_cons_self
    obtain ⟨m, g⟩ := Sym.Good.struct Try.underlying68 (by kernel_rfl) g
    obtain ⟨_, _, rfl, g1, _, _, rfl, g2, _, _, rfl, g3, _, _, rfl, g4, _, _, rfl, g5, _, _, rfl, g6, rfl⟩ := g
    obtain ⟨x1, rfl, w1⟩ := Sym.Good.int Try.underlying3 g1
    obtain ⟨x2, rfl, w2⟩ := Sym.Good.int Try.underlying3 g2
    obtain ⟨x3, rfl⟩ := Sym.Good.bool Try.underlying4 g3
    obtain ⟨e4, rfl, z4, q4⟩ := Sym.Good.slice (k := 0) Try.underlying25 (by kernel_rfl) (by kernel_rfl) g4
    obtain ⟨x5, rfl⟩ := Sym.Good.bool Try.underlying4 g5
    obtain ⟨e6, rfl, z6, q6⟩ := Sym.Good.slice (k := 0) Try.underlying25 (by kernel_rfl) (by kernel_rfl) g6
    obtain ⟨l4, rfl⟩ := bytes_of Try.underlying5 q4
    obtain ⟨l6, rfl⟩ := bytes_of Try.underlying5 q6
    refine ⟨⟨x1, x2, x3, l4, x5, l6⟩ :: l, by simp [hl], ?_⟩
    simp only [isElem] at he
    rw [if_neg (by decide)] at he
    subst he
    exact LeL.cons (Le.agg (LeL.cons (Le.refl _ _) (LeL.cons (Le.refl _ _) (LeL.cons Le.bl (LeL.cons (Le.refl _ _) (LeL.cons Le.bl (LeL.cons (Le.refl _ _) (LeL.nil _)))))))) hle

theorem bat_of {n : Nat} {l : List AV} (g : Sym.Good Try.prog n 58 l) : ∃ b : Bat, b.recs.length ≤ 1000000000000000 ∧ Le [] (.agg l) b.av := by
  obtain ⟨m, g⟩ := Sym.Good.struct Try.underlying58 (by kernel_rfl) g
  obtain ⟨_, _, rfl, g1, _, _, rfl, g2, _, _, rfl, g3, _, _, rfl, g4, _, _, rfl, g5, _, _, rfl, g6, rfl⟩ := g
  obtain ⟨x1, rfl, w1⟩ := Sym.Good.int Try.underlying3 g1
  obtain ⟨x2, rfl, w2⟩ := Sym.Good.int Try.underlying3 g2
  obtain ⟨x3, rfl, w3⟩ := Sym.Good.int Try.underlying3 g3
  obtain ⟨x4, rfl, w4⟩ := Sym.Good.int Try.underlying3 g4
  obtain ⟨x5, rfl, w5⟩ := Sym.Good.int Try.underlying3 g5
  obtain ⟨e6, rfl, z6, q6⟩ := Sym.Good.slice (k := 6) Try.underlying56 (by kernel_rfl) (by kernel_rfl) g6
  obtain ⟨r, hl, hle⟩ := recs_of q6
  have hz := bytes_lt z6 (of_decide_eq_true (by kernel_rfl))
  refine ⟨⟨x1, x2, x3, x4, x5, r⟩, by simp only; omega, ?_⟩
  exact Le.agg (LeL.cons (Le.refl _ _) (LeL.cons (Le.refl _ _) (LeL.cons (Le.refl _ _) (LeL.cons (Le.refl _ _) (LeL.cons (Le.refl _ _) (LeL.cons (Le.slL hle fun h => List.eq_nil_of_length_eq_zero (by have := congrArg List.length h; simp only [List.length_nil] at this; simp only [recsL, List.length_map]; omega)) (LeL.nil _)))))))

theorem bools_of {t : TypeId} {els : List AV} (hu : Try.prog.underlying t = some .bool) (h : ∀ x ∈ els, ∃ m cs, isElem 0 x cs ∧ Sym.Good Try.prog m t cs) : ∃ l : List Bool, els = boolsL l := by
  induction els with
  | nil => exact ⟨[], rfl⟩
  | cons x els ih =>
    obtain ⟨l, rfl⟩ := ih fun y hy => h y (List.mem_cons_of_mem _ hy)
    obtain ⟨m, cs, he, g⟩ := h x List.mem_cons_self
    obtain ⟨z, rfl⟩ := Sym.Good.bool hu g
    simp only [isElem, if_true, List.cons.injEq, and_true] at he
    subst he
    exact ⟨z :: l, rfl⟩
end Go.Proofs.Ythclmkhkchbpiaa

namespace Go.Proofs.Ythclmkhkchbpiaa
set_option maxRecDepth 100000
set_option maxHeartbeats 80000000
open Go.Sym

theorem bats_of {els : List AV} (h : ∀ x ∈ els, ∃ m cs, isElem 6 x cs ∧ Sym.Good Try.prog m 58 cs) : ∃ l : List Bat, l.length = els.length ∧ (∀ b ∈ l, b.recs.length ≤ 1000000000000000) ∧ LeL [] els (batsL l) := by
  induction els with
  | nil => exact ⟨[], rfl, by simp, LeL.refl _ _⟩
  | cons x els ih =>
    obtain ⟨l, hl, hb, hle⟩ := ih fun y hy => h y (List.mem_cons_of_mem _ hy)
    obtain ⟨m, cs, he, g⟩ := h x List.mem_cons_self
    obtain ⟨b, hb0, hle0⟩ := bat_of g
    simp only [isElem] at he
    rw [if_neg (by decide)] at he
    subst he
    refine ⟨b :: l, by simp [hl], fun y hy => ?_, LeL.cons hle0 hle⟩
    rcases List.mem_cons.1 hy with rfl | hy
    · exact hb0
    · exact hb y hy
end Go.Proofs.Ythclmkhkchbpiaa
