/-
  The law's own steps.
-/
import Derived.Test.YtlcanameloklbaaTxt2
import Derived.Test.YtlcanameloklbaaTxt1
import Derived.Test.YtlcanameloklbaaSym4
set_option linter.unusedVariables false
set_option linter.unusedSimpArgs false
namespace Go.Proofs.Ytlcanameloklbaa.Tp
set_option maxRecDepth 100000
set_option maxHeartbeats 80000000
open Go.Sym

theorem rows_length (l : List Rw) : (rowsA l).length = l.length := by simp [rowsA]
theorem rows_get {l : List Rw} {i : Nat} {x : Rw} (h : l[i]? = some x) : (rowsA l)[((i : Nat) : Int).toNat]? = some (rowA x) := by simp [rowsA, h]
structure FdI (l : List Rw) (k : List UInt8) where
  i : Nat
  hi : i ≤ belowR k l
theorem tFind {l : List Rw} {k : List UInt8} (hs : SrtR l) (hl : l.length ≤ 1000000) : CallOK Try.prog 39 [.sl .none 2 (rowsA l), .str k] [] 0 (Out (.tup [.int .i64 (belowR k l), .bool (findM l k).isSome]) [] 0) := by
  have hbl := below_le k l
  refine CallOK.fit (by decide) ?_
  refine callOK Try.call39 Try.func39 Try.ntmps39 rfl ?_
  (conv => arg 4; whnf); repeat (refine ⟨rfl, ?_⟩; conv => arg 4; whnf)
  refine tri_loopG (ι := FdI l k) (fun x => ⟨[(6, .int .i64 x.i), (0, .sl .none 2 (rowsA l)), (1, .str k)], [], 0, 36⟩) (fun x => l.length - x.i) ⟨0, Nat.zero_le _⟩ (WkG.of rfl rfl ⟨Le.refl _ _, Le.refl _ _, Le.refl _ _, trivial⟩ trivial ⟨rfl, Cl.sl (ClL.rows l) _, rfl, trivial⟩ trivial) ?_
  rintro ⟨i, hi⟩
  dsimp only
  conv => arg 4; whnf
  by_cases hlt : i < l.length
  · obtain ⟨x, hx⟩ : ∃ x, l[i]? = some x := ⟨_, List.getElem?_eq_getElem hlt⟩
    refine ⟨rowA x, ctxP_of ⟨by omega, rows_get hx⟩, ?_⟩
    conv => arg 4; whnf
    refine ⟨fun hb => ?_, fun hb => ?_⟩
    · have hb : Op.bytesLess x.1 k = true := by
        rw [rows_length] at hb
        simp at hb
        exact hb.2
      have hb := (below_lt hs hx).1 hb
      (conv => arg 4; whnf); repeat (refine ⟨rfl, ?_⟩; conv => arg 4; whnf)
      exact ⟨⟨i + 1, hb⟩, by show l.length - (i + 1) < l.length - i; omega, WkG.of rfl rfl ⟨Le.of_eq (succ_int (by omega)), Le.refl _ _, Le.refl _ _, trivial⟩ trivial ⟨rfl, Cl.sl (ClL.rows l) _, rfl, trivial⟩ trivial⟩
    · have hb : i = belowR k l := by
        have hno : ¬ Op.bytesLess x.1 k = true := fun h => by
          rw [rows_length] at hb
          simp [hlt, h] at hb
        have : ¬ i < belowR k l := fun h => hno ((below_lt hs hx).2 h)
        omega
      (conv => arg 4; whnf); repeat (refine ⟨rfl, ?_⟩; conv => arg 4; whnf)
      refine fin_exit ?_
      show holds _ _ _ _
      conv => arg 4; whnf
      refine br_yes (by rw [rows_length]; simp; omega) ?_
      (conv => arg 4; whnf); repeat (refine ⟨rfl, ?_⟩; conv => arg 4; whnf)
      refine nth_in (rowA x) ⟨by omega, rows_get hx⟩ ?_
      (conv => arg 4; whnf); repeat (refine ⟨rfl, ?_⟩; conv => arg 4; whnf)
      have ei : (findM l k).isSome = (x.1 == k) := by
        rw [Bool.eq_iff_iff, Option.isSome_iff_exists, beq_iff_eq]
        constructor
        · rintro ⟨v, hv⟩
          have := (find_at hs).1 hv
          rw [← hb, hx] at this
          cases this; rfl
        · intro e
          exact ⟨x.2, (find_at hs).2 (by rw [← hb, hx, ← e])⟩
      rw [ei, ← hb]
      exact ⟨by decide, Le.refl _ _, trivial, (by (repeat' (first | with_reducible assumption | exact ClL.nil | exact Cl.int _ _ | exact Cl.bool _ | exact Cl.bl _ | exact Cl.bs _ | exact Cl.str _ | exact Cl.nils | exact Cl.nilp | exact Cl.rec _ | exact Cl.bat _ | exact Cl.recsV _ | exact Cl.strsV _ | exact Cl.intsV _ | exact Cl.req _ | exact Cl.rsp _ | exact Cl.reqA _ | exact Cl.rspA _ | exact Cl.batsV _ | exact Cl.prsV _ | exact Cl.atsV _ | exact Cl.entA _ _ | exact Cl.ent _ | exact Cl.rr _ _ | exact Cl.foundA _ | exact Cl.getB _ | exact Cl.encA _ | exact Cl.firstA _ | refine ClL.cons ?_ ?_ | refine Cl.tup ?_ | refine Cl.agg ?_ | exact ClO.RO _ _)) : Cl _) _, trivial⟩
  · have hlt : i = l.length := by omega
    refine ⟨rowA ([], 0), fun h' => absurd h' (by rw [rows_length, hlt]; simp), ?_⟩
    have hb : i = belowR k l := by omega
    conv => arg 4; whnf
    refine br_no (by rw [rows_length, hlt]; simp) ?_
    (conv => arg 4; whnf); repeat (refine ⟨rfl, ?_⟩; conv => arg 4; whnf)
    refine fin_exit ?_
    show holds _ _ _ _
    conv => arg 4; whnf
    refine br_no (by rw [rows_length, hlt]; simp) ?_
    (conv => arg 4; whnf); repeat (refine ⟨rfl, ?_⟩; conv => arg 4; whnf)
    have ei : findM l k = none := by
      cases h : findM l k with
      | none => rfl
      | some v =>
        have := (find_at hs).1 h
        rw [← hb, hlt, List.getElem?_eq_none (Nat.le_refl _)] at this
        cases this
    rw [ei, ← hb]
    exact ⟨by decide, Le.tup (LeL.cons (Le.refl _ _) (LeL.cons Le.bl (LeL.nil _))), trivial, (by (repeat' (first | with_reducible assumption | exact ClL.nil | exact Cl.int _ _ | exact Cl.bool _ | exact Cl.bl _ | exact Cl.bs _ | exact Cl.str _ | exact Cl.nils | exact Cl.nilp | exact Cl.rec _ | exact Cl.bat _ | exact Cl.recsV _ | exact Cl.strsV _ | exact Cl.intsV _ | exact Cl.req _ | exact Cl.rsp _ | exact Cl.reqA _ | exact Cl.rspA _ | exact Cl.batsV _ | exact Cl.prsV _ | exact Cl.atsV _ | exact Cl.entA _ _ | exact Cl.ent _ | exact Cl.rr _ _ | exact Cl.foundA _ | exact Cl.getB _ | exact Cl.encA _ | exact Cl.firstA _ | refine ClL.cons ?_ ?_ | refine Cl.tup ?_ | refine Cl.agg ?_ | exact ClO.RO _ _)) : Cl _) _, trivial⟩

def dnR (l : List Rw) (kd : Int) (k : List UInt8) (v : Int) : List Rw × Int :=
  if kd = 1 then (if okT (k, v) = false then (l, 1) else if findM l k ≠ none then (l, 6) else if 20 ≤ l.length then (l, 2) else (insR k v l, 0))
  else if kd = 2 then (if findM l k = none then (l, 5) else (remR k l, 0))
  else (l, 0)
theorem tDone {l : List Rw} {kd v : Int} {k : List UInt8} (hs : SrtR l) (hl : l.length ≤ 1000) (hk : k.length ≤ 1000000) : CallOK Try.prog 36 [.sl .none 2 (rowsA l), .agg [.int .i64 kd, .str k, .int .i64 v]] [] 0 (Out (.tup [.sl .none 2 (rowsA (dnR l kd k v).1), .int .i64 (dnR l kd k v).2]) [] 0) := by
  have hbl := below_le k l
  refine CallOK.fit (by decide) ?_
  refine callOK Try.call36 Try.func36 Try.ntmps36 rfl ?_
  (conv => arg 4; whnf); repeat (refine ⟨rfl, ?_⟩; conv => arg 4; whnf)
  refine call0 (tFind (k := k) hs (by omega)) (ClL.cons (Cl.sl (ClL.rows l)) (ClL.cons (Cl.str _) ClL.nil)) (by (repeat' (first | with_reducible assumption | exact ClL.nil | exact Cl.int _ _ | exact Cl.bool _ | exact Cl.bl _ | exact Cl.bs _ | exact Cl.str _ | exact Cl.nils | exact Cl.nilp | exact Cl.rec _ | exact Cl.bat _ | exact Cl.recsV _ | exact Cl.strsV _ | exact Cl.intsV _ | exact Cl.req _ | exact Cl.rsp _ | exact Cl.reqA _ | exact Cl.rspA _ | exact Cl.batsV _ | exact Cl.prsV _ | exact Cl.atsV _ | exact Cl.entA _ _ | exact Cl.ent _ | exact Cl.rr _ _ | exact Cl.foundA _ | exact Cl.getB _ | exact Cl.encA _ | exact Cl.firstA _ | refine ClL.cons ?_ ?_ | refine Cl.tup ?_ | refine Cl.agg ?_ | exact ClO.RO _ _))) ?_
  (conv => arg 4; whnf); repeat (refine ⟨rfl, ?_⟩; conv => arg 4; whnf)
  refine ⟨fun h1 => ?_, fun h1 => ?_⟩
  · have h1 : kd = 1 := by simpa using h1
    subst h1
    (conv => arg 4; whnf); repeat (refine ⟨rfl, ?_⟩; conv => arg 4; whnf)
    refine call0 (refTopic hk) (by (repeat' (first | with_reducible assumption | exact ClL.nil | exact Cl.int _ _ | exact Cl.bool _ | exact Cl.bl _ | exact Cl.bs _ | exact Cl.str _ | exact Cl.nils | exact Cl.nilp | exact Cl.rec _ | exact Cl.bat _ | exact Cl.recsV _ | exact Cl.strsV _ | exact Cl.intsV _ | exact Cl.req _ | exact Cl.rsp _ | exact Cl.reqA _ | exact Cl.rspA _ | exact Cl.batsV _ | exact Cl.prsV _ | exact Cl.atsV _ | exact Cl.entA _ _ | exact Cl.ent _ | exact Cl.rr _ _ | exact Cl.foundA _ | exact Cl.getB _ | exact Cl.encA _ | exact Cl.firstA _ | refine ClL.cons ?_ ?_ | refine Cl.tup ?_ | refine Cl.agg ?_ | exact ClO.RO _ _))) (by (repeat' (first | with_reducible assumption | exact ClL.nil | exact Cl.int _ _ | exact Cl.bool _ | exact Cl.bl _ | exact Cl.bs _ | exact Cl.str _ | exact Cl.nils | exact Cl.nilp | exact Cl.rec _ | exact Cl.bat _ | exact Cl.recsV _ | exact Cl.strsV _ | exact Cl.intsV _ | exact Cl.req _ | exact Cl.rsp _ | exact Cl.reqA _ | exact Cl.rspA _ | exact Cl.batsV _ | exact Cl.prsV _ | exact Cl.atsV _ | exact Cl.entA _ _ | exact Cl.ent _ | exact Cl.rr _ _ | exact Cl.foundA _ | exact Cl.getB _ | exact Cl.encA _ | exact Cl.firstA _ | refine ClL.cons ?_ ?_ | refine Cl.tup ?_ | refine Cl.agg ?_ | exact ClO.RO _ _))) ?_
    (conv => arg 4; whnf); repeat (refine ⟨rfl, ?_⟩; conv => arg 4; whnf)
    have hok : okT (k, v) = !(bif bif !nm k then true else decide (v < 1) then true else decide (v > 20)) := by
      unfold okT
      rw [Bool.eq_iff_iff]
      cases nm k <;> simp
    refine ⟨fun hb => ?_, fun hb => ?_⟩
    · have ho : okT (k, v) = false := by rw [hok, hb]; rfl
      have hd : dnR l 1 k v = (l, 1) := by unfold dnR; rw [if_pos rfl, if_pos ho]
      rw [hd]
      (conv => arg 4; whnf); repeat (refine ⟨rfl, ?_⟩; conv => arg 4; whnf)
      exact ⟨by decide, Le.refl _ _, trivial, (Cl.tup (ClL.cons (Cl.sl (ClL.rows _)) (ClL.cons (Cl.int _ _) ClL.nil))) _, trivial⟩
    · have ho : okT (k, v) = true := by rw [hok, hb]; rfl
      (conv => arg 4; whnf); repeat (refine ⟨rfl, ?_⟩; conv => arg 4; whnf)
      refine ⟨fun hf => ?_, fun hf => ?_⟩
      · have hf : findM l k ≠ none := by intro h; rw [h] at hf; cases hf
        have hd : dnR l 1 k v = (l, 6) := by unfold dnR; rw [if_pos rfl, if_neg (by rw [ho]; decide), if_pos hf]
        rw [hd]
        (conv => arg 4; whnf); repeat (refine ⟨rfl, ?_⟩; conv => arg 4; whnf)
        exact ⟨by decide, Le.refl _ _, trivial, (Cl.tup (ClL.cons (Cl.sl (ClL.rows _)) (ClL.cons (Cl.int _ _) ClL.nil))) _, trivial⟩
      · have hf : findM l k = none := by cases h : findM l k with | none => rfl | some _ => rw [h] at hf; cases hf
        (conv => arg 4; whnf); repeat (refine ⟨rfl, ?_⟩; conv => arg 4; whnf)
        refine ⟨fun hg => ?_, fun hg => ?_⟩
        · have hg : 20 ≤ l.length := by rw [rows_length] at hg; simp at hg; omega
          have hd : dnR l 1 k v = (l, 2) := by unfold dnR; rw [if_pos rfl, if_neg (by rw [ho]; decide), if_neg (by rw [hf]; simp), if_pos hg]
          rw [hd]
          (conv => arg 4; whnf); repeat (refine ⟨rfl, ?_⟩; conv => arg 4; whnf)
          exact ⟨by decide, Le.refl _ _, trivial, (Cl.tup (ClL.cons (Cl.sl (ClL.rows _)) (ClL.cons (Cl.int _ _) ClL.nil))) _, trivial⟩
        · have hg : ¬ 20 ≤ l.length := by rw [rows_length] at hg; simp at hg; omega
          have hd : dnR l 1 k v = (insR k v l, 0) := by unfold dnR; rw [if_pos rfl, if_neg (by rw [ho]; decide), if_neg (by rw [hf]; simp), if_neg hg]
          rw [hd]
          (conv => arg 4; whnf); repeat (refine ⟨rfl, ?_⟩; conv => arg 4; whnf)
          refine ⟨by rw [rows_length]; omega, ?_⟩
          (conv => arg 4; whnf); repeat (refine ⟨rfl, ?_⟩; conv => arg 4; whnf)
          refine ⟨by rw [rows_length]; omega, ?_⟩
          (conv => arg 4; whnf); repeat (refine ⟨rfl, ?_⟩; conv => arg 4; whnf)
          refine ⟨sizeOk 24 rfl (by simp only [List.length_append, List.length_take, List.length_drop, List.length_cons, List.length_nil, rows_length]; omega), Or.inl ?_⟩
          (conv => arg 4; whnf); repeat (refine ⟨rfl, ?_⟩; conv => arg 4; whnf)
          refine ⟨⟨rfl, sizeOk 24 rfl (by simp only [List.length_append, List.length_take, List.length_drop, List.length_cons, List.length_nil, rows_length]; omega)⟩, ?_⟩
          (conv => arg 4; whnf); repeat (refine ⟨rfl, ?_⟩; conv => arg 4; whnf)
          refine ⟨⟨rfl, sizeOk 24 rfl (by simp only [List.length_append, List.length_take, List.length_drop, List.length_cons, List.length_nil, rows_length]; omega)⟩, ?_⟩
          (conv => arg 4; whnf); repeat (refine ⟨rfl, ?_⟩; conv => arg 4; whnf)
          refine ⟨by decide, Le.tup (LeL.cons (Le.noneOf ?_) (LeL.refl _ _)), trivial, (Cl.tup (ClL.cons (Cl.sl (ClL.rows _)) (ClL.cons (Cl.int _ _) ClL.nil))) _, trivial⟩
          rw [ins_eq]
          simp [rowsA, rowA, List.map_take, List.map_drop]
  · have h1 : kd ≠ 1 := by simpa using h1
    (conv => arg 4; whnf); repeat (refine ⟨rfl, ?_⟩; conv => arg 4; whnf)
    refine ⟨fun h2 => ?_, fun h2 => ?_⟩
    · have h2 : kd = 2 := by simpa using h2
      subst h2
      (conv => arg 4; whnf); repeat (refine ⟨rfl, ?_⟩; conv => arg 4; whnf)
      refine ⟨fun hf => ?_, fun hf => ?_⟩
      · have hf : findM l k = none := by cases h : findM l k with | none => rfl | some _ => rw [h] at hf; cases hf
        have hd : dnR l 2 k v = (l, 5) := by unfold dnR; rw [if_neg (by decide), if_pos rfl, if_pos hf]
        rw [hd]
        (conv => arg 4; whnf); repeat (refine ⟨rfl, ?_⟩; conv => arg 4; whnf)
        exact ⟨by decide, Le.refl _ _, trivial, (Cl.tup (ClL.cons (Cl.sl (ClL.rows _)) (ClL.cons (Cl.int _ _) ClL.nil))) _, trivial⟩
      · have hf : findM l k ≠ none := by intro h; rw [h] at hf; cases hf
        have hd : dnR l 2 k v = (remR k l, 0) := by unfold dnR; rw [if_neg (by decide), if_pos rfl, if_neg hf]
        rw [hd]
        (conv => arg 4; whnf); repeat (refine ⟨rfl, ?_⟩; conv => arg 4; whnf)
        have hlt : belowR k l + 1 ≤ l.length := by
          cases h : findM l k with
          | none => exact absurd h hf
          | some v' =>
            have := (List.getElem?_eq_some_iff.1 ((find_at hs).1 h)).1
            omega
        have hw : IntKind.i64.wrap ((belowR k l : Int) + 1) = ((belowR k l + 1 : Nat) : Int) := by rw [IntKind.wrap_i64]; omega
        refine ⟨by rw [rows_length]; omega, ?_⟩
        (conv => arg 4; whnf); repeat (refine ⟨rfl, ?_⟩; conv => arg 4; whnf)
        refine ⟨by rw [hw, rows_length]; omega, ?_⟩
        (conv => arg 4; whnf); repeat (refine ⟨rfl, ?_⟩; conv => arg 4; whnf)
        refine ⟨sizeOk 24 rfl (by simp only [List.length_append, List.length_take, List.length_drop, List.length_cons, List.length_nil, rows_length]; omega), Or.inl ?_⟩
        (conv => arg 4; whnf); repeat (refine ⟨rfl, ?_⟩; conv => arg 4; whnf)
        refine ⟨⟨rfl, sizeOk 24 rfl (by simp only [List.length_append, List.length_take, List.length_drop, List.length_cons, List.length_nil, rows_length]; omega)⟩, ?_⟩
        (conv => arg 4; whnf); repeat (refine ⟨rfl, ?_⟩; conv => arg 4; whnf)
        refine ⟨by decide, Le.tup (LeL.cons (Le.noneOf ?_) (LeL.refl _ _)), trivial, (Cl.tup (ClL.cons (Cl.sl (ClL.rows _)) (ClL.cons (Cl.int _ _) ClL.nil))) _, trivial⟩
        rw [hw, rem_eq]
        simp [rowsA, List.map_take, List.map_drop]
    · have h2 : kd ≠ 2 := by simpa using h2
      have hd : dnR l kd k v = (l, 0) := by unfold dnR; rw [if_neg h1, if_neg h2]
      rw [hd]
      (conv => arg 4; whnf); repeat (refine ⟨rfl, ?_⟩; conv => arg 4; whnf)
      exact ⟨by decide, Le.refl _ _, trivial, (Cl.tup (ClL.cons (Cl.sl (ClL.rows _)) (ClL.cons (Cl.int _ _) ClL.nil))) _, trivial⟩
end Go.Proofs.Ytlcanameloklbaa.Tp

namespace Go.Proofs.Ytlcanameloklbaa.Tp
set_option maxRecDepth 100000
set_option maxHeartbeats 80000000
open Go.Sym

theorem nthc_in {P : Program} {Q : AExit → St → Prop} {K : AV → Heap → Nat → Prop} {f : Prop → Prop} {els : List AV} {i : Int} {k : AV → R} (e : AV) (h : f (0 ≤ i ∧ els[i.toNat]? = some e)) (hk : holds P Q K (k e)) : holds P Q K (.nthc f els i k) := ⟨e, h, hk⟩
theorem ClO.rowsL (l : List Rw) : ClO (.cells [.sl .none 2 (rowsA l)]) := ClO.cells (ClL.cons (Cl.sl (ClL.rows l)) ClL.nil)
theorem tShows {l m : List Rw} (r : RelT l m) (hl : l.length ≤ 1000) : CallOK Try.prog 37 [.ptr 5 0, .sl .none 2 (rowsA l)] (TB m) 6 (Out (.bool true) (TB m) 6) := by
  refine CallOK.fit (by decide) ?_
  refine callOK Try.call37 Try.func37 Try.ntmps37 rfl ?_
  (conv => arg 4; whnf); repeat (refine ⟨rfl, ?_⟩; conv => arg 4; whnf)
  refine callG2 [0, 1, 2, 3, 4, 5] (.sl .none 2 (rowsA l)) [(7, .cells [.bl false]), (6, .cells [.sl .none 2 (rowsA l)]), (5, tbO 2 4), (4, .map (fE m))] (tList r hl) rfl ⟨⟨by simp, rfl⟩, ⟨by simp, by rw [ClO.fE]; rfl⟩, trivial⟩ rfl (Le.cl (Cl.sl (ClL.rows l))) ⟨⟨_, rfl, LeO.refl _ _⟩, ⟨_, rfl, LeO.refl _ _⟩, ⟨_, rfl, LeO.refl _ _⟩, ⟨_, rfl, LeO.cl (ClO.fE _)⟩, trivial⟩ ?_
  (conv => arg 4; whnf); repeat (refine ⟨rfl, ?_⟩; conv => arg 4; whnf)
  refine br_no (by simp) ?_
  (conv => arg 4; whnf); repeat (refine ⟨rfl, ?_⟩; conv => arg 4; whnf)
  refine callOK Try.call65 Try.func65 Try.ntmps65 rfl ?_
  (conv => arg 4; whnf); repeat (refine ⟨rfl, ?_⟩; conv => arg 4; whnf)
  refine ret_in ?_
  show holds _ _ _ _
  conv => arg 4; whnf
  refine callOK Try.call80 Try.func80 Try.ntmps80 rfl ?_
  (conv => arg 4; whnf); repeat (refine ⟨rfl, ?_⟩; conv => arg 4; whnf)
  refine callOK Try.call66 Try.func66 Try.ntmps66 rfl ?_
  (conv => arg 4; whnf); repeat (refine ⟨rfl, ?_⟩; conv => arg 4; whnf)
  refine ret_in ?_
  show holds _ _ _ _
  conv => arg 4; whnf
  refine callOK Try.call81 Try.func81 Try.ntmps81 rfl ?_
  (conv => arg 4; whnf); repeat (refine ⟨rfl, ?_⟩; conv => arg 4; whnf)
  refine ret_in ?_
  show holds _ _ _ _
  conv => arg 4; whnf
  refine callG2 [4, 12] (.sl .none 0 (strsA (l.map (·.1)))) [(11, loopOf Try.f37 0 [(6, .ptr 9 0), (5, .ptr 8 0), (4, .ptr 7 0), (3, .ptr 6 0)] 102 .ready), (10, .cells [.ptr 5 0]), (9, .cells [.int .i64 0]), (8, .cells [.sl .none 2 (rowsA l)]), (7, .cells [.bl false]), (6, .cells [.sl .none 2 (rowsA l)]), (5, tbO 2 4), (4, .map (fE m))] (sortedF r.perm (srt_keys r.srt) (by rw [r.len]; omega)) rfl ⟨⟨by simp, rfl⟩, ⟨by simp, by rw [ClO.fE]; rfl⟩, trivial⟩ rfl (Le.cl (Cl.keys _)) ⟨⟨_, rfl, LeO.loop ⟨Le.refl _ _, Le.refl _ _, Le.refl _ _, Le.refl _ _, trivial⟩ rfl rfl rfl⟩, ⟨_, rfl, LeO.refl _ _⟩, ⟨_, rfl, LeO.refl _ _⟩, ⟨_, rfl, LeO.refl _ _⟩, ⟨_, rfl, LeO.refl _ _⟩, ⟨_, rfl, LeO.refl _ _⟩, ⟨_, rfl, LeO.refl _ _⟩, ⟨_, rfl, LeO.cl (ClO.fE _)⟩, trivial⟩ ?_
  (conv => arg 4; whnf); repeat (refine ⟨rfl, ?_⟩; conv => arg 4; whnf)
  refine tri_loopG (ι := EnI l) (fun x => ⟨[(14, .int .i64 x.i), (13, .int .i64 l.length), (12, .sl .none 0 (strsA (l.map (·.1)))), (0, .yld 11), (1, .ptr 10 0)], [(11, loopOf Try.f37 0 [(6, .ptr 9 0), (5, .ptr 8 0), (4, .ptr 7 0), (3, .ptr 6 0)] 102 .ready), (10, .cells [.ptr 5 0]), (9, .cells [.int .i64 x.i]), (8, .cells [.sl .none 2 (rowsA l)]), (7, .cells [.bl false]), (6, .cells [.sl .none 2 (rowsA l)]), (5, tbO 2 4), (4, .map (fE m))], 13, 29⟩) (fun x => l.length - x.i) ⟨0, Nat.zero_le _⟩ (WkG.of rfl rfl ⟨Le.refl _ _, Le.of_eq (congrArg (AV.int .i64) (by rw [names_len])), Le.refl _ _, Le.refl _ _, Le.refl _ _, trivial⟩ ⟨⟨_, rfl, LeO.refl _ _⟩, ⟨_, rfl, LeO.refl _ _⟩, ⟨_, rfl, LeO.refl _ _⟩, ⟨_, rfl, LeO.refl _ _⟩, ⟨_, rfl, LeO.refl _ _⟩, ⟨_, rfl, LeO.refl _ _⟩, ⟨_, rfl, LeO.refl _ _⟩, ⟨_, rfl, LeO.refl _ _⟩, trivial⟩ ⟨rfl, rfl, Cl.keys _ _, rfl, rfl, trivial⟩ ⟨⟨by decide, rfl⟩, ⟨by decide, rfl⟩, ⟨by decide, rfl⟩, ⟨by decide, ClO.rowsL l _⟩, ⟨by decide, rfl⟩, ⟨by decide, ClO.rowsL l _⟩, ⟨by decide, rfl⟩, ⟨by decide, ClO.fE _ _⟩, trivial⟩) ?_
  rintro ⟨i, hi⟩
  dsimp only
  (conv => arg 4; whnf); repeat (refine ⟨rfl, ?_⟩; conv => arg 4; whnf)
  refine ⟨fun h => ?_, fun h => ?_⟩
  · have hlt : i < l.length := by simp at h; omega
    (conv => arg 4; whnf); repeat (refine ⟨rfl, ?_⟩; conv => arg 4; whnf)
    refine nth_in (.str l[i].1) ⟨by omega, names_get hlt⟩ ?_
    (conv => arg 4; whnf); repeat (refine ⟨rfl, ?_⟩; conv => arg 4; whnf)
    have hlk : lookV (fE m) (.str l[i].1) (.int .i64 0) false = .int .i64 l[i].2 := by rw [look_fE, r.look, find_get r.srt (List.getElem?_eq_getElem hlt)]; rfl
    refine nth_in (.int .i64 l[i].2) ⟨by decide, congrArg some hlk⟩ ?_
    (conv => arg 4; whnf); repeat (refine ⟨rfl, ?_⟩; conv => arg 4; whnf)
    refine need_in (askF m l[i].1) ?_
    (conv => arg 4; whnf); repeat (refine ⟨rfl, ?_⟩; conv => arg 4; whnf)
    refine round_in ?_
    (conv => arg 4; whnf); repeat (refine ⟨rfl, ?_⟩; conv => arg 4; whnf)
    refine nthc_in (rowA l[i]) (ctxP_of ⟨by omega, rows_get (List.getElem?_eq_getElem hlt)⟩) ?_
    (conv => arg 4; whnf); repeat (refine ⟨rfl, ?_⟩; conv => arg 4; whnf)
    refine nthc_in (rowA l[i]) (ctxP_of ⟨by omega, rows_get (List.getElem?_eq_getElem hlt)⟩) ?_
    (conv => arg 4; whnf); repeat (refine ⟨rfl, ?_⟩; conv => arg 4; whnf)
    refine nthc_in (rowA l[i]) (ctxP_of ⟨by omega, rows_get (List.getElem?_eq_getElem hlt)⟩) ?_
    (conv => arg 4; whnf); repeat (refine ⟨rfl, ?_⟩; conv => arg 4; whnf)
    refine nthc_in (rowA l[i]) (ctxP_of ⟨by omega, rows_get (List.getElem?_eq_getElem hlt)⟩) ?_
    (conv => arg 4; whnf); repeat (refine ⟨rfl, ?_⟩; conv => arg 4; whnf)
    refine br_no (by rw [rows_length]; simp; omega) ?_
    (conv => arg 4; whnf); repeat (refine ⟨rfl, ?_⟩; conv => arg 4; whnf)
    refine br_no (by decide) ?_
    (conv => arg 4; whnf); repeat (refine ⟨rfl, ?_⟩; conv => arg 4; whnf)
    exact ⟨⟨i + 1, hlt⟩, by show l.length - (i + 1) < l.length - i; omega, WkG.of rfl rfl ⟨Le.of_eq (succ_int (by omega)), Le.refl _ _, Le.refl _ _, Le.refl _ _, Le.refl _ _, trivial⟩ ⟨⟨_, rfl, LeO.refl _ _⟩, ⟨_, rfl, LeO.refl _ _⟩, ⟨_, rfl, LeL.cons (Le.of_eq (succ_int (by omega))) (LeL.nil _)⟩, ⟨_, rfl, LeO.refl _ _⟩, ⟨_, rfl, LeO.refl _ _⟩, ⟨_, rfl, LeO.refl _ _⟩, ⟨_, rfl, LeO.refl _ _⟩, ⟨_, rfl, LeO.refl _ _⟩, trivial⟩ ⟨rfl, rfl, Cl.keys _ _, rfl, rfl, trivial⟩ ⟨⟨by decide, rfl⟩, ⟨by decide, rfl⟩, ⟨by decide, rfl⟩, ⟨by decide, ClO.rowsL l _⟩, ⟨by decide, rfl⟩, ⟨by decide, ClO.rowsL l _⟩, ⟨by decide, rfl⟩, ⟨by decide, ClO.fE _ _⟩, trivial⟩⟩
  · have hlt : i = l.length := by simp at h; omega
    subst hlt
    (conv => arg 4; whnf); repeat (refine ⟨rfl, ?_⟩; conv => arg 4; whnf)
    refine fin_exit ?_
    show holds _ _ _ _
    conv => arg 4; whnf
    refine ret_in ?_
    show holds _ _ _ _
    conv => arg 4; whnf
    refine tri_loopG (ι := EnI l) (fun x => ⟨[(10, .int .i64 x.i), (6, .ptr 9 0), (4, .ptr 7 0), (3, .ptr 6 0), (0, .ptr 5 0)], [(9, .cells [.int .i64 l.length]), (7, .cells [.bl false]), (6, .cells [.sl .none 2 (rowsA l)]), (5, tbO 2 4), (4, .map (fE m))], 13, 102⟩) (fun x => l.length - x.i) ⟨0, Nat.zero_le _⟩ (WkG.of rfl rfl ⟨Le.refl _ _, Le.refl _ _, Le.refl _ _, Le.refl _ _, Le.refl _ _, trivial⟩ ⟨⟨_, rfl, LeO.refl _ _⟩, ⟨_, rfl, LeO.refl _ _⟩, ⟨_, rfl, LeO.refl _ _⟩, ⟨_, rfl, LeO.refl _ _⟩, ⟨_, rfl, LeO.refl _ _⟩, trivial⟩ ⟨rfl, rfl, rfl, rfl, rfl, trivial⟩ ⟨⟨by decide, rfl⟩, ⟨by decide, rfl⟩, ⟨by decide, ClO.rowsL l _⟩, ⟨by decide, rfl⟩, ⟨by decide, ClO.fE _ _⟩, trivial⟩) ?_
    rintro ⟨i, hi⟩
    dsimp only
    (conv => arg 4; whnf); repeat (refine ⟨rfl, ?_⟩; conv => arg 4; whnf)
    refine ⟨fun h => ?_, fun h => ?_⟩
    · have hlt : i < l.length := by rw [rows_length] at h; simp at h; omega
      (conv => arg 4; whnf); repeat (refine ⟨rfl, ?_⟩; conv => arg 4; whnf)
      refine nth_in (rowA l[i]) ⟨by omega, rows_get (List.getElem?_eq_getElem hlt)⟩ ?_
      (conv => arg 4; whnf); repeat (refine ⟨rfl, ?_⟩; conv => arg 4; whnf)
      refine callOK Try.call38 Try.func38 Try.ntmps38 rfl ?_
      (conv => arg 4; whnf); repeat (refine ⟨rfl, ?_⟩; conv => arg 4; whnf)
      refine callOK Try.call66 Try.func66 Try.ntmps66 rfl ?_
      (conv => arg 4; whnf); repeat (refine ⟨rfl, ?_⟩; conv => arg 4; whnf)
      refine ret_in ?_
      show holds _ _ _ _
      conv => arg 4; whnf
      have hlk : lookV (fE m) (.str l[i].1) (.int .i64 0) true = .tup [.int .i64 l[i].2, .bool true] := by rw [look_fE2, r.look, find_get r.srt (List.getElem?_eq_getElem hlt)]; rfl
      refine nth_in (.tup [.int .i64 l[i].2, .bool true]) ⟨by decide, congrArg some hlk⟩ ?_
      (conv => arg 4; whnf); repeat (refine ⟨rfl, ?_⟩; conv => arg 4; whnf)
      refine need_in (askF m l[i].1) ?_
      (conv => arg 4; whnf); repeat (refine ⟨rfl, ?_⟩; conv => arg 4; whnf)
      refine ret_in ?_
      show holds _ _ _ _
      conv => arg 4; whnf
      refine nthc_in (rowA l[i]) (ctxP_of ⟨by omega, rows_get (List.getElem?_eq_getElem hlt)⟩) ?_
      (conv => arg 4; whnf); repeat (refine ⟨rfl, ?_⟩; conv => arg 4; whnf)
      refine br_no (by simp) ?_
      (conv => arg 4; whnf); repeat (refine ⟨rfl, ?_⟩; conv => arg 4; whnf)
      exact ⟨⟨i + 1, hlt⟩, by show l.length - (i + 1) < l.length - i; omega, WkG.of rfl rfl ⟨Le.of_eq (succ_int (by omega)), Le.refl _ _, Le.refl _ _, Le.refl _ _, Le.refl _ _, trivial⟩ ⟨⟨_, rfl, LeO.refl _ _⟩, ⟨_, rfl, LeO.refl _ _⟩, ⟨_, rfl, LeO.refl _ _⟩, ⟨_, rfl, LeO.refl _ _⟩, ⟨_, rfl, LeO.refl _ _⟩, trivial⟩ ⟨rfl, rfl, rfl, rfl, rfl, trivial⟩ ⟨⟨by decide, rfl⟩, ⟨by decide, rfl⟩, ⟨by decide, ClO.rowsL l _⟩, ⟨by decide, rfl⟩, ⟨by decide, ClO.fE _ _⟩, trivial⟩⟩
    · have hlt : i = l.length := by rw [rows_length] at h; simp at h; omega
      (conv => arg 4; whnf); repeat (refine ⟨rfl, ?_⟩; conv => arg 4; whnf)
      refine fin_exit ?_
      show holds _ _ _ _
      conv => arg 4; whnf
      refine ⟨by decide, Le.of_eq (congrArg AV.bool ?_), ⟨⟨_, rfl, LeO.refl _ _⟩, ⟨_, rfl, LeO.refl _ _⟩, trivial⟩, (Cl.bool _) _, ⟨⟨by decide, rfl⟩, ⟨by decide, ClO.fE _ _⟩, trivial⟩⟩
      rw [rows_length]; simp
end Go.Proofs.Ytlcanameloklbaa.Tp

namespace Go.Proofs.Ytlcanameloklbaa.Tp
set_option maxRecDepth 100000
set_option maxHeartbeats 80000000
open Go.Sym

theorem dNew4 {room : Int} (h : 0 ≤ room ∧ room ≤ 1099511627776) : CallOK Try.prog 33 [.int .i64 room] [] 0 (Out (.tup [.ptr 2 0, .int .i64 0]) [(2, dkO 0 1 room 0 0), (1, .map []), (0, .map [])] 4) :=
  (dNew h).less (by decide) (by decide) (Le.refl _ _) ⟨⟨_, rfl, LeO.refl _ _⟩, ⟨_, rfl, LeO.refl _ _⟩, ⟨_, rfl, LeO.refl _ _⟩, trivial⟩ rfl ⟨⟨by decide, rfl⟩, ⟨by decide, rfl⟩, ⟨by decide, rfl⟩, trivial⟩
abbrev TruT : AV → Heap → Nat → Prop := fun a _ _ => a = .bool true ∨ a = .bl true
theorem goodNil : goodR [] := fun _ h => by cases h
theorem awake21 : CallOK Try.prog 32 [] [] 0 (Out (.bool true) [] 0) := by
  refine CallOK.fit (by decide) ?_
  refine callOK Try.call32 Try.func32 Try.ntmps32 rfl ?_
  (conv => arg 4; whnf); repeat (refine ⟨rfl, ?_⟩; conv => arg 4; whnf)
  refine callG2 [] (.tup [.ptr 2 0, .int .i64 0]) [(2, dkO 0 1 1048576 0 0), (1, .map []), (0, .map [])] (dNew4 (by decide)) rfl trivial rfl (Le.refl _ _) ⟨⟨_, rfl, LeO.refl _ _⟩, ⟨_, rfl, LeO.refl _ _⟩, ⟨_, rfl, LeO.refl _ _⟩, trivial⟩ ?_
  (conv => arg 4; whnf); repeat (refine ⟨rfl, ?_⟩; conv => arg 4; whnf)
  refine br_no (by decide) ?_
  (conv => arg 4; whnf); repeat (refine ⟨rfl, ?_⟩; conv => arg 4; whnf)
  refine callG2 [0, 1, 2, 3] (.tup [.ptr 5 0, .int .i64 0]) (TT [] none 1048576 0 0) open0 rfl ⟨⟨by simp, rfl⟩, ⟨by simp, rfl⟩, ⟨by simp, rfl⟩, trivial⟩ rfl (Le.refl _ _) ⟨⟨_, rfl, LeO.refl _ _⟩, ⟨_, rfl, LeO.refl _ _⟩, ⟨_, rfl, LeO.refl _ _⟩, ⟨_, rfl, LeO.refl _ _⟩, ⟨_, rfl, LeO.refl _ _⟩, trivial⟩ ?_
  (conv => arg 4; whnf); repeat (refine ⟨rfl, ?_⟩; conv => arg 4; whnf)
  refine br_no (by decide) ?_
  (conv => arg 4; whnf); repeat (refine ⟨rfl, ?_⟩; conv => arg 4; whnf)
  refine callGE2 [0, 1, 2, 3, 4, 5] (fun _ => .int .i64 0) (fun x => T6 [([97], 2)] (encR [([97], 2)]) 1048576 x.lf x.op) (createOk (l := []) (m := []) (fs := none) (room := 1048576) (lf := 0) (op := 0) (k := [97]) (v := 2) RelT.nil goodNil (by decide) (by decide) rfl (fun _ h => (nomatch h)) (by decide)) rfl ⟨⟨by simp, rfl⟩, ⟨by simp, rfl⟩, ⟨by simp, rfl⟩, ⟨by simp, rfl⟩, ⟨by simp, rfl⟩, trivial⟩ rfl (fun _ _ => Le.refl _ _) (fun _ _ => ⟨⟨_, rfl, LeO.refl _ _⟩, ⟨_, rfl, LeO.refl _ _⟩, ⟨_, rfl, LeO.refl _ _⟩, ⟨_, rfl, LeO.refl _ _⟩, ⟨_, rfl, LeO.refl _ _⟩, ⟨_, rfl, LeO.cl (ClO.fil _)⟩, trivial⟩) fun y _ => ?_
  (conv => arg 4; whnf); repeat (refine ⟨rfl, ?_⟩; conv => arg 4; whnf)
  refine br_yes (by decide) ?_
  (conv => arg 4; whnf); repeat (refine ⟨rfl, ?_⟩; conv => arg 4; whnf)
  refine callG2 [0, 8, 2, 7, 6, 5] (.int .i64 6) (T6 [([97], 2)] (encR [([97], 2)]) 1048576 y.lf y.op) (createThere (l := [([97], 2)]) (m := [([97], 2)]) (fs := some (encR [([97], 2)])) (k := [97]) (v := 2) (RelT.self (List.pairwise_singleton _ _)) (by decide) (by decide) (by decide)) rfl ⟨⟨by simp, rfl⟩, ⟨by simp, by rw [ClO.fE]; rfl⟩, ⟨by simp, rfl⟩, ⟨by simp, rfl⟩, ⟨by simp, rfl⟩, ⟨by simp, by rw [ClO.fil]; rfl⟩, trivial⟩ rfl (Le.refl _ _) ⟨⟨_, rfl, LeO.refl _ _⟩, ⟨_, rfl, LeO.cl (ClO.fE _)⟩, ⟨_, rfl, LeO.refl _ _⟩, ⟨_, rfl, LeO.refl _ _⟩, ⟨_, rfl, LeO.refl _ _⟩, ⟨_, rfl, LeO.cl (ClO.fil _)⟩, trivial⟩ ?_
  (conv => arg 4; whnf); repeat (refine ⟨rfl, ?_⟩; conv => arg 4; whnf)
  refine br_yes (by decide) ?_
  (conv => arg 4; whnf); repeat (refine ⟨rfl, ?_⟩; conv => arg 4; whnf)
  refine callG2 [0, 8, 2, 7, 6, 5] (.int .i64 1) (T6 [([97], 2)] (encR [([97], 2)]) 1048576 y.lf y.op) (createArg (l := [([97], 2)]) (m := [([97], 2)]) (fs := some (encR [([97], 2)])) (k := [66]) (v := 2) (by decide) (by decide)) rfl ⟨⟨by simp, rfl⟩, ⟨by simp, by rw [ClO.fE]; rfl⟩, ⟨by simp, rfl⟩, ⟨by simp, rfl⟩, ⟨by simp, rfl⟩, ⟨by simp, by rw [ClO.fil]; rfl⟩, trivial⟩ rfl (Le.refl _ _) ⟨⟨_, rfl, LeO.refl _ _⟩, ⟨_, rfl, LeO.cl (ClO.fE _)⟩, ⟨_, rfl, LeO.refl _ _⟩, ⟨_, rfl, LeO.refl _ _⟩, ⟨_, rfl, LeO.refl _ _⟩, ⟨_, rfl, LeO.cl (ClO.fil _)⟩, trivial⟩ ?_
  (conv => arg 4; whnf); repeat (refine ⟨rfl, ?_⟩; conv => arg 4; whnf)
  refine br_yes (by decide) ?_
  (conv => arg 4; whnf); repeat (refine ⟨rfl, ?_⟩; conv => arg 4; whnf)
  refine holds_args (args' := [.ptr 5 0, .sl .none 2 (rowsA [([97], 2)])]) ⟨Le.refl _ _, Le.none, trivial⟩ ?_
  refine callG2 [0, 8, 2, 7, 6, 5] (.bool true) (T6 [([97], 2)] (encR [([97], 2)]) 1048576 y.lf y.op) (tShows (l := [([97], 2)]) (m := [([97], 2)]) (RelT.self (List.pairwise_singleton _ _)) (by decide)) rfl ⟨⟨by simp, rfl⟩, ⟨by simp, by rw [ClO.fE]; rfl⟩, trivial⟩ (by simp only [renL, ren]; rw [ClL.rows]; rfl) (Le.refl _ _) ⟨⟨_, rfl, LeO.refl _ _⟩, ⟨_, rfl, LeO.cl (ClO.fE _)⟩, ⟨_, rfl, LeO.refl _ _⟩, ⟨_, rfl, LeO.refl _ _⟩, ⟨_, rfl, LeO.refl _ _⟩, ⟨_, rfl, LeO.refl _ _⟩, trivial⟩ ?_
  (conv => arg 4; whnf); repeat (refine ⟨rfl, ?_⟩; conv => arg 4; whnf)
  exact ⟨by decide, Le.refl _ _, trivial, (Cl.bool _) _, trivial⟩
end Go.Proofs.Ytlcanameloklbaa.Tp

namespace Go.Sym
section
variable {P : Program} {Q : AExit → St → Prop} {K : AV → Heap → Nat → Prop}
def allB (ρ : Nat → Nat) (i : Nat) : Heap → Bool
  | [] => true
  | (j, _) :: r => (!(Nat.beq (ρ j) (ρ i)) || Nat.beq j i) && allB ρ i r
def injB (ρ : Nat → Nat) : Heap → Bool
  | [] => true
  | (i, _) :: r => allB ρ i r && injB ρ r
theorem allB_of {ρ : Nat → Nat} {i j : Nat} {o : AObj} : ∀ {h : Heap}, allB ρ i h = true → get h j = some o → ρ j = ρ i → j = i
  | [], _, hg, _ => by simp [get] at hg
  | (k, x) :: r, hb, hg, he => by
    simp only [allB, Bool.and_eq_true] at hb
    rw [get_cons'] at hg
    by_cases e : k = j
    · subst e
      rcases Bool.or_eq_true_iff.1 hb.1 with h | h
      · rw [he] at h; simp at h
      · exact Nat.eq_of_beq_eq_true h
    · rw [if_neg e] at hg
      exact allB_of hb.2 hg he
theorem injB_of {ρ : Nat → Nat} {i j : Nat} {o o' : AObj} : ∀ {h : Heap}, injB ρ h = true → get h i = some o → get h j = some o' → ρ i = ρ j → i = j
  | [], _, hg, _, _ => by simp [get] at hg
  | (k, x) :: r, hb, hi, hj, he => by
    simp only [injB, Bool.and_eq_true] at hb
    rw [get_cons'] at hi hj
    by_cases e1 : k = i <;> by_cases e2 : k = j
    · rw [← e1, ← e2]
    · rw [if_neg e2] at hj
      subst e1
      exact (allB_of hb.1 hj he.symm).symm
    · rw [if_neg e1] at hi
      subst e2
      exact allB_of hb.1 hi he
    · rw [if_neg e1] at hi
      rw [if_neg e2] at hj
      exact injB_of hb.2 hi hj he
theorem Gh.alias {n : Nat} {names : List Nat} {f f' : Nat → AV} {h h' : Heap} {nx : Nat} (hlow : lowB 0 n names = true) (hinj : injB (Sym.rho nx names) h' = true) (hf : ∀ t, ren (Sym.rho nx names) (f' t) = f t)
    (hh : ∀ id o, get h' id = some o → get h (Sym.rho nx names id) = some (renO (Sym.rho nx names) o)) : Gh n f h nx f' h' names.length := by
  intro hn
  have hl : ∀ i, i < n → Sym.rho nx names i = i := fun i hi => by rw [lowB_rho hlow i hi, Nat.zero_add]
  refine ⟨lowB_len hlow, fun F V w ρ i hfr r => ?_⟩
  refine ⟨F, V.comap (Sym.rho nx names), .refl F, ⟨fun id b hlt hb => ?_, fun t x hlt hx => ?_⟩, ?_, fun _ _ _ h => .inl h, ⟨i.fixed, ?_, ?_, ?_⟩, ?_, fun t => (rep_ren _ _).1 (by rw [hf]; exact r t)⟩
  · show V.obj (Sym.rho nx names id) = some b
    rw [hl id hlt]; exact hb
  · refine ⟨x, ?_, Nat.le_refl _, fun _ => rfl⟩
    show V.tok (Sym.rho nx names t) = some x
    rw [hl t hlt]; exact hx
  · rintro b ⟨id, o, hg, ho⟩
    exact ⟨_, _, hh id o hg, by rw [own_ren]; exact ho⟩
  · intro id o hg
    exact objRep_ren.1 (i.objs _ _ (hh id o hg))
  · intro id o b off hg ho hfree
    exact i.nofix _ _ b off (hh id o hg) (by rw [own_ren]; exact ho) (free_ren.2 hfree)
  · intro id id' o o' b hg hg' ho ho'
    exact injB_of hinj hg hg' (i.inj _ _ _ _ b (hh id o hg) (hh id' o' hg') (by rw [own_ren]; exact ho) (by rw [own_ren]; exact ho'))
  · intro id hid
    have e : Sym.rho nx names id = nx + (id - names.length) := by
      have := rho_ge nx names (id - names.length)
      rw [Nat.add_sub_cancel' hid] at this
      exact this
    have := hfr (nx + (id - names.length)) (by omega)
    rw [← e] at this
    exact this
def lookH (ρ : Nat → Nat) (h : Heap) : Heap → Prop
  | [] => True
  | (id, o) :: r => (∃ o0, get h (ρ id) = some o0 ∧ LeO h o0 (renO ρ o)) ∧ lookH ρ h r
theorem lookH.of {ρ : Nat → Nat} {h : Heap} : ∀ {h' : Heap}, lookH ρ h h' → ∀ id o, get h' id = some o → ∃ o0, get h (ρ id) = some o0 ∧ LeO h o0 (renO ρ o)
  | [], _, id, o, hg => by simp [get] at hg
  | (j, x) :: r, hh, id, o, hg => by
    rw [get_cons'] at hg
    by_cases e : j = id
    · subst e
      simp only [if_true, Option.some.injEq] at hg
      subst hg
      exact hh.1
    · rw [if_neg e] at hg
      exact lookH.of hh.2 id o hg
theorem get_renHi {ρ : Nat → Nat} (id : Nat) (o : AObj) : ∀ h : Heap, injB ρ h = true → get h id = some o → get (renH ρ h) (ρ id) = some (renO ρ o)
  | [], _, hg => by simp [get] at hg
  | (j, x) :: r, hb, hg => by
    simp only [injB, Bool.and_eq_true] at hb
    rw [get_cons'] at hg
    show get ((ρ j, renO ρ x) :: renH ρ r) (ρ id) = _
    rw [get_cons']
    by_cases e : j = id
    · subst e
      simp only [if_true, Option.some.injEq] at hg ⊢
      rw [hg]
    · rw [if_neg e] at hg
      rw [if_neg fun e' => e (allB_of hb.1 hg e'.symm).symm]
      exact get_renHi id o r hb.2 hg
/-- A loop's next state, names told anew, some of them twice. -/
theorem WkG.alias {n : Nat} (names : List Nat) {env env' : List (Nat × AV)} {h h' : Heap} {nx : Nat} {sz : Sz} (hn : Nat.ble n nx = true) (hlow : lowB 0 n names = true) (hinj : injB (Sym.rho nx names) h' = true) (he : EnvLe h env (renV (Sym.rho nx names) env')) (hh : HeapLe h (renH (Sym.rho nx names) h')) :
    WkG n ⟨env, h, nx, sz⟩ ⟨env', h', names.length, sz⟩ :=
  ⟨Nat.le_of_ble_eq_true hn, rfl, (Gh.le (f' := look (renV (Sym.rho nx names) env')) (h' := renH (Sym.rho nx names) h') he.le hh.le).trans (Gh.alias hlow hinj (fun t => (look_renV _ _ _).symm) (fun id o hg => get_renHi id o _ hinj hg))⟩
end
end Go.Sym
namespace Go.Proofs.Ytlcanameloklbaa.Tp
set_option maxRecDepth 100000
set_option maxHeartbeats 80000000
open Go.Sym

structure Stp where
  kind : Int
  name : List UInt8
  parts : Int
def Stp.av (s : Stp) : AV := .agg [.int .i64 s.kind, .str s.name, .int .i64 s.parts]
def stpsL (l : List Stp) : List AV := l.map Stp.av
abbrev stpsV (l : List Stp) : AV := .sl .none 3 (stpsL l)
theorem stps_length (l : List Stp) : (stpsL l).length = l.length := by simp [stpsL]
theorem stps_get {l : List Stp} {i : Nat} {x : Stp} (h : l[i]? = some x) : (stpsL l)[((i : Nat) : Int).toNat]? = some x.av := by simp [stpsL, h]
theorem Cl.stp (s : Stp) : Cl s.av := Cl.agg (ClL.cons (Cl.int _ _) (ClL.cons (Cl.str _) (ClL.cons (Cl.int _ _) ClL.nil)))
theorem Cl.stpsV (l : List Stp) : Cl (stpsV l) := Cl.sl (ClL.map Cl.stp l)
theorem Cl.intsV (l : List Int) : Cl (.sl .none 0 (ints l)) := Cl.sl (fun ρ => ren_ints ρ l)
theorem isum_range : ∀ {xs : List Int} {n : Int}, 0 ≤ n ∧ n ≤ 1099511627776 → (∀ x ∈ xs, 0 ≤ x) → 0 ≤ isum n xs ∧ isum n xs ≤ 1099511627776
  | [], n, hn, _ => hn
  | x :: r, n, hn, hx => by
    have h0 := hx x List.mem_cons_self
    unfold isum
    split
    · omega
    · exact isum_range (by omega) fun y hy => hx y (List.mem_cons_of_mem _ hy)
theorem isum_eq : ∀ {xs : List Int} {n : Int}, 0 ≤ n ∧ n ≤ 1099511627776 → (∀ x ∈ xs, 0 ≤ x) → isum n xs < 1099511627776 → isum n xs = n + xs.sum
  | [], n, hn, _, _ => by simp [isum]
  | x :: r, n, hn, hx, hl => by
    have h0 := hx x List.mem_cons_self
    unfold isum at hl ⊢
    split at hl
    · omega
    · rename_i hc
      rw [if_neg hc, isum_eq (by omega) (fun y hy => hx y (List.mem_cons_of_mem _ hy)) hl, List.sum_cons]
      omega

theorem sumB {n : Int} {x : Int} {xs : List Int} (hn : 1099511627776 < n) (hn' : n ≤ 1000000000000000000) (hx : 0 ≤ x) : CallOK Try.prog 47 [.int .i64 n, .sl .none 0 (ints (x :: xs))] [] 0 (Out (.int .i64 1099511627776) [] 0) := by
  refine callOK Try.call47 Try.func47 Try.ntmps47 rfl ?_
  conv => arg 4; whnf
  refine tri_loopG (ι := Unit) (fun _ => ⟨[(5, .int .i64 0), (0, .int .i64 n), (1, .sl .none 0 (ints (x :: xs)))], [], 0, 30⟩) (fun _ => 0) () (WkG.of rfl rfl ⟨Le.refl _ _, Le.refl _ _, Le.refl _ _, trivial⟩ trivial ⟨rfl, rfl, Cl.intsV _ _, trivial⟩ trivial) ?_
  intro _
  conv => arg 4; whnf
  have h0 : decide ((0 : Int) < ((ints (x :: xs)).length : Int)) = true := by simp [ints]
  refine ⟨fun _ => ?_, fun h' => absurd (h0.symm.trans h') (by decide)⟩
  conv => arg 4; whnf
  refine ⟨.int .i64 x, ctxP_of ⟨by omega, rfl⟩, ?_⟩
  conv => arg 4; whnf
  have h1 : decide (n > 1099511627776) = true := by simp; omega
  rw [h1]
  refine ⟨fun _ => ?_, fun h' => absurd h' (by simp)⟩
  conv => arg 4; whnf
  exact ⟨rfl, rfl, rfl⟩

/-- A weight's sum, of numbers that are none below nothing; below the limit it is their sum. -/
theorem sumE {n x : Int} {xs : List Int} (hn : 0 ≤ n ∧ n ≤ 1000000000000000000) (hx : ∀ y ∈ x :: xs, 0 ≤ y) (hl : (x :: xs).length ≤ 1000) :
    CallOK Try.prog 47 [.int .i64 n, .sl .none 0 (ints (x :: xs))] [] 0 (fun a h m => ∃ v : Int, (0 ≤ v ∧ v ≤ 1099511627776 ∧ (v < 1099511627776 → v = n + (x :: xs).sum)) ∧ Out (.int .i64 v) [] 0 a h m) := by
  by_cases h : n ≤ 1099511627776
  · exact (sum ⟨hn.1, h⟩ hx hl).mono fun _ _ _ k => ⟨_, ⟨(isum_range ⟨hn.1, h⟩ hx).1, (isum_range ⟨hn.1, h⟩ hx).2, isum_eq ⟨hn.1, h⟩ hx⟩, k⟩
  · exact (sumB (by omega) hn.2 (hx x List.mem_cons_self)).mono fun _ _ _ k => ⟨1099511627776, ⟨by omega, by omega, fun h => by omega⟩, k⟩

theorem succ21 {i : Nat} (h : i < 1000000000000001) : AV.int .i64 (IntKind.i64.wrap ((i : Int) + 1)) = AV.int .i64 ((i + 1 : Nat) : Int) := by
  have : IntKind.i64.wrap ((i : Int) + 1) = ((i + 1 : Nat) : Int) := by rw [IntKind.wrap_i64]; omega
  rw [this]
structure SmI (l : List Stp) where
  i : Nat
  n : Int
  hi : i ≤ l.length
  hn : 0 ≤ n ∧ n ≤ 1099511627776
  hs : n ≤ 1000 → ∀ (j : Nat) (s : Stp), j < i → l[j]? = some s → s.name.length ≤ 1000
theorem small21 {l : List Stp} (hl : l.length ≤ 1000000000000000) (hf : ∀ s ∈ l, s.name.length ≤ 1000000000000000) : CallOK Try.prog 31 [stpsV l] [] 0 (fun a h m => ∃ b : Bool, (b = true → l.length ≤ 60 ∧ ∀ s ∈ l, s.name.length ≤ 1000) ∧ Out (.bool b) [] 0 a h m) := by
  refine CallOK.fitE (by decide) ?_
  refine callOK Try.call31 Try.func31 Try.ntmps31 rfl ?_
  conv => arg 4; whnf
  refine tri_loopG (ι := SmI l) (fun x => ⟨[(4, .int .i64 x.i), (3, .int .i64 x.n), (0, stpsV l)], [], 0, 31⟩) (fun x => l.length - x.i) ⟨0, 0, Nat.zero_le _, by omega, fun _ j s hj => absurd hj (Nat.not_lt_zero _)⟩ (WkG.of rfl rfl ⟨Le.refl _ _, Le.refl _ _, Le.refl _ _, trivial⟩ trivial ⟨rfl, rfl, Cl.stpsV _ _, trivial⟩ trivial) ?_
  rintro ⟨i, n, hi, hn, hs⟩
  dsimp only
  conv => arg 4; whnf
  refine ⟨fun h => ?_, fun h => ?_⟩
  · rw [stps_length] at h
    simp only [Bool.cond_true_left, Bool.cond_false_right, Bool.or_eq_true, Bool.and_eq_true, Bool.not_eq_true', decide_eq_true_eq, beq_iff_eq, bne_iff_ne, u8s_length, Bool.not_eq_true, gt_iff_lt, ge_iff_le] at h
    have hlt : i < l.length := by omega
    obtain ⟨x, hx⟩ : ∃ x, l[i]? = some x := ⟨_, List.getElem?_eq_getElem hlt⟩
    (conv => arg 4; whnf); repeat (refine ⟨rfl, ?_⟩; conv => arg 4; whnf)
    repeat (refine ⟨x.av, ⟨by omega, stps_get hx⟩, ?_⟩; (conv => arg 4; whnf); (repeat (refine ⟨rfl, ?_⟩; conv => arg 4; whnf)))
    have hx0 : ∀ y ∈ (x.name.length : Int) :: [1], 0 ≤ y := by
      intro y hy
      simp only [List.mem_cons, List.not_mem_nil, or_false] at hy
      omega
    refine holds_args (args' := [.int .i64 n, .sl .none 0 (ints [(x.name.length : Int), 1])]) ⟨Le.refl _ _, Le.noneOf rfl, trivial⟩ ?_
    refine call0E (sumE (n := n) (x := (x.name.length : Int)) (xs := [1]) ⟨hn.1, by omega⟩ hx0 (by simp)) (ClL.cons (Cl.int _ _) (ClL.cons (Cl.intsV _) ClL.nil)) (fun x => by (repeat' (first | with_reducible assumption | exact ClL.nil | exact Cl.int _ _ | exact Cl.bool _ | exact Cl.bl _ | exact Cl.bs _ | exact Cl.str _ | exact Cl.nils | exact Cl.nilp | exact Cl.rec _ | exact Cl.bat _ | exact Cl.recsV _ | exact Cl.strsV _ | exact Cl.intsV _ | exact Cl.req _ | exact Cl.rsp _ | exact Cl.reqA _ | exact Cl.rspA _ | exact Cl.batsV _ | exact Cl.prsV _ | exact Cl.atsV _ | exact Cl.entA _ _ | exact Cl.ent _ | exact Cl.rr _ _ | exact Cl.foundA _ | exact Cl.getB _ | exact Cl.encA _ | exact Cl.firstA _ | refine ClL.cons ?_ ?_ | refine Cl.tup ?_ | refine Cl.agg ?_ | exact ClO.RO _ _))) fun v hv => ?_
    (conv => arg 4; whnf); repeat (refine ⟨rfl, ?_⟩; conv => arg 4; whnf)
    have hv2 : v < 1099511627776 → v = n + (x.name.length + 1) := fun h => by
      have := hv.2.2 h
      simp only [List.sum_cons, List.sum_nil] at this
      omega
    refine ⟨⟨i + 1, v, by omega, ⟨hv.1, hv.2.1⟩, fun h2 j s hj hs' => ?_⟩, by show l.length - (i + 1) < l.length - i; omega, WkG.of rfl rfl ⟨Le.of_eq (succ21 (by omega)), Le.refl _ _, Le.refl _ _, trivial⟩ trivial ⟨rfl, rfl, Cl.stpsV _ _, trivial⟩ trivial⟩
    have hv3 := hv2 (by omega)
    rcases Nat.lt_or_ge j i with q | q
    · exact hs (by omega) j s q hs'
    · have : j = i := by omega
      subst this
      rw [hx] at hs'
      cases hs'
      omega
  · rw [stps_length] at h
    rw [← Bool.not_eq_true] at h; simp only [Bool.cond_true_left, Bool.cond_false_right, Bool.or_eq_true, Bool.and_eq_true, Bool.not_eq_true', decide_eq_true_eq, beq_iff_eq, bne_iff_ne, u8s_length, gt_iff_lt, ge_iff_le] at h
    (conv => arg 4; whnf); repeat (refine ⟨rfl, ?_⟩; conv => arg 4; whnf)
    refine fin_exit ?_
    show holds _ _ _ _
    conv => arg 4; whnf
    refine ⟨bif decide (n ≤ 1000) then decide (((stpsL l).length : Int) ≤ 60) else false, fun hb => ?_, by decide, Le.refl _ _, trivial, (Cl.bool _) _, trivial⟩
    rw [stps_length] at hb
    simp only [Bool.cond_true_left, Bool.cond_false_right, Bool.or_eq_true, Bool.and_eq_true, Bool.not_eq_true', decide_eq_true_eq, beq_iff_eq, bne_iff_ne, u8s_length, Bool.not_eq_true, gt_iff_lt, ge_iff_le] at hb
    refine ⟨by omega, fun s hs' => ?_⟩
    obtain ⟨j, hj⟩ := List.mem_iff_getElem?.1 hs'
    have hjl := (List.getElem?_eq_some_iff.1 hj).1
    exact hs hb.1 j s (by omega) hj
end Go.Proofs.Ytlcanameloklbaa.Tp

namespace Go.Proofs.Ytlcanameloklbaa.Tp
set_option maxRecDepth 100000
set_option maxHeartbeats 80000000
open Go.Sym

structure PlI (l : List Stp) where
  i : Nat
  b : Bool
  rows : List Rw
  m : List Rw
  lf : Int
  op : Int
  hi : i ≤ l.length
  rel : RelT rows m
  good : goodR rows
  len : rows.length ≤ 20
  emp : b = false → rows = []
def fsOf (b : Bool) (rows : List Rw) : Option (List UInt8) := if b then some (encR rows) else none
abbrev PH (b : Bool) (rows m : List Rw) (lf op : Int) : Heap := (9, tbO 2 8) :: (8, .map (fE m)) :: (2, dkO 0 6 1073741824 lf op) :: (6, .map (nowE 7 (fsOf b rows))) :: (0, .map (nowE 7 (fsOf b rows))) :: fileH 7 (fsOf b rows)

theorem ins_good {rows : List Rw} {k : List UInt8} {v : Int} (h : goodR rows) (ho : okT (k, v) = true) : goodR (insR k v rows) := fun x hx => by
  rcases ins_mem hx with rfl | hx
  · exact ho
  · exact h x hx
theorem ins_len {rows : List Rw} {k : List UInt8} {v : Int} (h : rows.length < 20) : (insR k v rows).length ≤ 20 := by rw [len_ins]; omega
theorem lawPlays21 {l : List Stp} {look : List UInt8} (hl : l.length ≤ 1000000000000000) (hf : ∀ s ∈ l, s.name.length ≤ 1000000000000000) : CallOK Try.prog 7 [stpsV l, .str look] [] 0 TruT := by
  refine callOK Try.call7 Try.func7 Try.ntmps7 rfl ?_
  conv => arg 4; whnf
  refine call0E (small21 hl hf) (ClL.cons (Cl.stpsV _) ClL.nil) (fun x => Cl.bool _) fun b hb => ?_
  (conv => arg 4; whnf); repeat (refine ⟨rfl, ?_⟩; conv => arg 4; whnf)
  refine ⟨fun h => ?_, fun h => ?_⟩
  · (conv => arg 4; whnf); repeat (refine ⟨rfl, ?_⟩; conv => arg 4; whnf)
    refine call0 awake21 (by (repeat' (first | with_reducible assumption | exact ClL.nil | exact Cl.int _ _ | exact Cl.bool _ | exact Cl.bl _ | exact Cl.bs _ | exact Cl.str _ | exact Cl.nils | exact Cl.nilp | exact Cl.rec _ | exact Cl.bat _ | exact Cl.recsV _ | exact Cl.strsV _ | exact Cl.intsV _ | exact Cl.req _ | exact Cl.rsp _ | exact Cl.reqA _ | exact Cl.rspA _ | exact Cl.batsV _ | exact Cl.prsV _ | exact Cl.atsV _ | exact Cl.entA _ _ | exact Cl.ent _ | exact Cl.rr _ _ | exact Cl.foundA _ | exact Cl.getB _ | exact Cl.encA _ | exact Cl.firstA _ | refine ClL.cons ?_ ?_ | refine Cl.tup ?_ | refine Cl.agg ?_ | exact ClO.RO _ _))) (by (repeat' (first | with_reducible assumption | exact ClL.nil | exact Cl.int _ _ | exact Cl.bool _ | exact Cl.bl _ | exact Cl.bs _ | exact Cl.str _ | exact Cl.nils | exact Cl.nilp | exact Cl.rec _ | exact Cl.bat _ | exact Cl.recsV _ | exact Cl.strsV _ | exact Cl.intsV _ | exact Cl.req _ | exact Cl.rsp _ | exact Cl.reqA _ | exact Cl.rspA _ | exact Cl.batsV _ | exact Cl.prsV _ | exact Cl.atsV _ | exact Cl.entA _ _ | exact Cl.ent _ | exact Cl.rr _ _ | exact Cl.foundA _ | exact Cl.getB _ | exact Cl.encA _ | exact Cl.firstA _ | refine ClL.cons ?_ ?_ | refine Cl.tup ?_ | refine Cl.agg ?_ | exact ClO.RO _ _))) ?_
    (conv => arg 4; whnf); repeat (refine ⟨rfl, ?_⟩; conv => arg 4; whnf)
    exact .inl rfl
  · rw [← Bool.not_eq_true] at h; simp only [Bool.cond_true_left, Bool.cond_false_right, Bool.or_eq_true, Bool.and_eq_true, Bool.not_eq_true', decide_eq_true_eq, beq_iff_eq, bne_iff_ne, u8s_length, gt_iff_lt, ge_iff_le] at h
    obtain ⟨rfl, hlk⟩ : b = true ∧ look.length ≤ 100 := by cases b <;> simp at h ⊢; omega
    obtain ⟨hl60, hlit⟩ := hb rfl
    (conv => arg 4; whnf); repeat (refine ⟨rfl, ?_⟩; conv => arg 4; whnf)
    refine callG2 [] (.tup [.ptr 2 0, .int .i64 0]) [(2, dkO 0 1 1073741824 0 0), (1, .map []), (0, .map [])] (dNew4 (by decide)) rfl trivial rfl (Le.refl _ _) ⟨⟨_, rfl, LeO.refl _ _⟩, ⟨_, rfl, LeO.refl _ _⟩, ⟨_, rfl, LeO.refl _ _⟩, trivial⟩ ?_
    (conv => arg 4; whnf); repeat (refine ⟨rfl, ?_⟩; conv => arg 4; whnf)
    refine br_no (by decide) ?_
    (conv => arg 4; whnf); repeat (refine ⟨rfl, ?_⟩; conv => arg 4; whnf)
    refine callG2 [0, 1, 2, 3] (.tup [.ptr 5 0, .int .i64 0]) (TT [] none 1073741824 0 0) open0 rfl ⟨⟨by simp, rfl⟩, ⟨by simp, rfl⟩, ⟨by simp, rfl⟩, trivial⟩ rfl (Le.refl _ _) ⟨⟨_, rfl, LeO.refl _ _⟩, ⟨_, rfl, LeO.refl _ _⟩, ⟨_, rfl, LeO.refl _ _⟩, ⟨_, rfl, LeO.refl _ _⟩, ⟨_, rfl, LeO.refl _ _⟩, trivial⟩ ?_
    (conv => arg 4; whnf); repeat (refine ⟨rfl, ?_⟩; conv => arg 4; whnf)
    refine br_no (by decide) ?_
    (conv => arg 4; whnf); repeat (refine ⟨rfl, ?_⟩; conv => arg 4; whnf)
    refine tri_loopG (ι := PlI l) (fun x => ⟨[(10, .int .i64 x.i), (9, .sl .none 2 (rowsA x.rows)), (7, .ptr 9 0), (5, .ptr 2 0), (0, stpsV l), (1, .str look)], PH x.b x.rows x.m x.lf x.op, 10, 113⟩) (fun x => l.length - x.i) ⟨0, false, [], [], 0, 0, Nat.zero_le _, RelT.nil, goodNil, by decide, fun _ => rfl⟩ (WkG.alias [0, 1, 2, 3, 4, 5, 1, 3, 4, 5] rfl rfl rfl ⟨Le.refl _ _, Le.nils, Le.refl _ _, Le.refl _ _, Le.lc (Cl.stpsV _), Le.refl _ _, trivial⟩ ⟨⟨_, rfl, LeO.refl _ _⟩, ⟨_, rfl, LeO.refl _ _⟩, ⟨_, rfl, LeO.refl _ _⟩, ⟨_, rfl, LeO.refl _ _⟩, ⟨_, rfl, LeO.refl _ _⟩, trivial⟩) ?_
    rintro ⟨i, b, rows, m, lf, op, hi, rel, good, len, emp⟩
    dsimp only
    cases b with
    | false =>
      (conv => arg 4; whnf); repeat (refine ⟨rfl, ?_⟩; conv => arg 4; whnf)
      refine br_in (fun hlt => ?_) (fun hlt => ?_)
      · have hlt : i < l.length := by rw [stps_length] at hlt; simp at hlt; omega
        obtain ⟨x, hx⟩ : ∃ x, l[i]? = some x := ⟨_, List.getElem?_eq_getElem hlt⟩
        have hxl := hlit x (List.mem_of_getElem? hx)
        (conv => arg 4; whnf); repeat (refine ⟨rfl, ?_⟩; conv => arg 4; whnf)
        refine nth_in x.av ⟨by omega, stps_get hx⟩ ?_
        (conv => arg 4; whnf); repeat (refine ⟨rfl, ?_⟩; conv => arg 4; whnf)
        refine br_in (fun hk => ?_) (fun hk => ?_)
        · have hk : x.kind = 3 := by simpa using hk
          (conv => arg 4; whnf); repeat (refine ⟨rfl, ?_⟩; conv => arg 4; whnf)
          obtain rfl := emp rfl
          refine callG2 [0, 6, 2, 7] (.tup [.ptr 11 0, .int .i64 0]) [(11, tbO 2 10), (10, .map (fE [])), (2, dkO 0 6 1073741824 lf op), (6, .map []), (0, .map [])] (open0 (room := 1073741824) (lf := lf) (op := op)) rfl ⟨⟨by simp, rfl⟩, ⟨by simp, rfl⟩, ⟨by simp, rfl⟩, trivial⟩ rfl (Le.refl _ _) ⟨⟨_, rfl, LeO.refl _ _⟩, ⟨_, rfl, LeO.refl _ _⟩, ⟨_, rfl, LeO.refl _ _⟩, ⟨_, rfl, LeO.refl _ _⟩, ⟨_, rfl, LeO.refl _ _⟩, trivial⟩ ?_
          (conv => arg 4; whnf); repeat (refine ⟨rfl, ?_⟩; conv => arg 4; whnf)
          refine br_no (by decide) ?_
          (conv => arg 4; whnf); repeat (refine ⟨rfl, ?_⟩; conv => arg 4; whnf)
          refine callG2 [0, 6, 2, 7, 10, 11] (.bool true) [(11, tbO 2 10), (10, .map (fE [])), (2, dkO 0 6 1073741824 lf op), (6, .map []), (0, .map [])] (tShows (RelT.self rel.srt) (by omega)) rfl ⟨⟨by simp, rfl⟩, ⟨by simp, by rw [ClO.fE]; rfl⟩, trivial⟩ (by simp only [renL, ren]; rw [ClL.rows]; rfl) (Le.refl _ _) ⟨⟨_, rfl, LeO.refl _ _⟩, ⟨_, rfl, LeO.cl (ClO.fE _)⟩, ⟨_, rfl, LeO.refl _ _⟩, ⟨_, rfl, LeO.refl _ _⟩, ⟨_, rfl, LeO.refl _ _⟩, trivial⟩ ?_
          (conv => arg 4; whnf); repeat (refine ⟨rfl, ?_⟩; conv => arg 4; whnf)
          refine br_no (by decide) ?_
          (conv => arg 4; whnf); repeat (refine ⟨rfl, ?_⟩; conv => arg 4; whnf)
          exact ⟨⟨i + 1, false, [], [], lf, op, hlt, (RelT.self rel.srt), good, len, (fun _ => rfl)⟩, by show l.length - (i + 1) < l.length - i; omega, WkG.alias [0, 1, 2, 3, 4, 5, 6, 7, 10, 11] rfl rfl rfl ⟨Le.of_eq (succ21 (by omega)), Le.lc (Cl.sl (ClL.rows _)), Le.refl _ _, Le.refl _ _, Le.lc (Cl.stpsV _), Le.refl _ _, trivial⟩ ⟨⟨_, rfl, LeO.refl _ _⟩, ⟨_, rfl, LeO.lc (ClO.fE _)⟩, ⟨_, rfl, LeO.refl _ _⟩, ⟨_, rfl, LeO.refl _ _⟩, ⟨_, rfl, LeO.refl _ _⟩, trivial⟩⟩
        · have hk3 : x.kind ≠ 3 := by simpa using hk
          (conv => arg 4; whnf); repeat (refine ⟨rfl, ?_⟩; conv => arg 4; whnf)
          refine nth_in x.av ⟨by omega, stps_get hx⟩ ?_
          (conv => arg 4; whnf); repeat (refine ⟨rfl, ?_⟩; conv => arg 4; whnf)
          refine callOK Try.call35 Try.func35 Try.ntmps35 rfl ?_
          (conv => arg 4; whnf); repeat (refine ⟨rfl, ?_⟩; conv => arg 4; whnf)
          refine br_in (fun hk => ?_) (fun hk => ?_)
          · have hk : x.kind = 1 := by simpa using hk
            (conv => arg 4; whnf); repeat (refine ⟨rfl, ?_⟩; conv => arg 4; whnf)
            by_cases ho : okT (x.name, x.parts) = false
            · have hd : dnR rows x.kind x.name x.parts = (rows, 1) := by unfold dnR; rw [hk, if_pos rfl, if_pos ho]
              refine callG2 [0, 6, 2, 7, 8, 9] (.int .i64 1) [(9, tbO 2 8), (8, .map (fE m)), (2, dkO 0 6 1073741824 lf op), (6, .map []), (0, .map [])] (createArg (l := rows) (m := m) (fs := none) (room := 1073741824) (lf := lf) (op := op) (k := x.name) (v := x.parts) (by omega) ho) rfl ⟨⟨by simp, rfl⟩, ⟨by simp, by rw [ClO.fE]; rfl⟩, ⟨by simp, rfl⟩, ⟨by simp, rfl⟩, ⟨by simp, rfl⟩, trivial⟩ rfl (Le.refl _ _) ⟨⟨_, rfl, LeO.refl _ _⟩, ⟨_, rfl, LeO.cl (ClO.fE _)⟩, ⟨_, rfl, LeO.refl _ _⟩, ⟨_, rfl, LeO.refl _ _⟩, ⟨_, rfl, LeO.refl _ _⟩, trivial⟩ ?_
              (conv => arg 4; whnf); repeat (refine ⟨rfl, ?_⟩; conv => arg 4; whnf)
              refine ret_in ?_
              show holds _ _ _ _
              conv => arg 4; whnf
              refine nth_in x.av ⟨by omega, stps_get hx⟩ ?_
              (conv => arg 4; whnf); repeat (refine ⟨rfl, ?_⟩; conv => arg 4; whnf)
              have cd := tDone (kd := x.kind) (v := x.parts) (k := x.name) rel.srt (by omega) (by omega)
              rw [hd] at cd
              dsimp only at cd
              refine call0 cd (ClL.cons (Cl.sl (ClL.rows rows)) (ClL.cons (Cl.stp x) ClL.nil)) (Cl.tup (ClL.cons (Cl.sl (ClL.rows _)) (ClL.cons (Cl.int _ _) ClL.nil))) ?_
              (conv => arg 4; whnf); repeat (refine ⟨rfl, ?_⟩; conv => arg 4; whnf)
              refine br_no (by decide) ?_
              (conv => arg 4; whnf); repeat (refine ⟨rfl, ?_⟩; conv => arg 4; whnf)
              refine callG2 [0, 6, 2, 7, 8, 9] (.bool true) [(9, tbO 2 8), (8, .map (fE m)), (2, dkO 0 6 1073741824 lf op), (6, .map []), (0, .map [])] (tShows rel (by omega)) rfl ⟨⟨by simp, rfl⟩, ⟨by simp, by rw [ClO.fE]; rfl⟩, trivial⟩ (by simp only [renL, ren]; rw [ClL.rows]; rfl) (Le.refl _ _) ⟨⟨_, rfl, LeO.refl _ _⟩, ⟨_, rfl, LeO.cl (ClO.fE _)⟩, ⟨_, rfl, LeO.refl _ _⟩, ⟨_, rfl, LeO.refl _ _⟩, ⟨_, rfl, LeO.refl _ _⟩, trivial⟩ ?_
              (conv => arg 4; whnf); repeat (refine ⟨rfl, ?_⟩; conv => arg 4; whnf)
              refine br_no (by decide) ?_
              (conv => arg 4; whnf); repeat (refine ⟨rfl, ?_⟩; conv => arg 4; whnf)
              exact ⟨⟨i + 1, false, rows, m, lf, op, hlt, rel, good, len, emp⟩, by show l.length - (i + 1) < l.length - i; omega, WkG.alias [0, 1, 2, 3, 4, 5, 6, 7, 8, 9] rfl rfl rfl ⟨Le.of_eq (succ21 (by omega)), Le.lc (Cl.sl (ClL.rows _)), Le.refl _ _, Le.refl _ _, Le.lc (Cl.stpsV _), Le.refl _ _, trivial⟩ ⟨⟨_, rfl, LeO.refl _ _⟩, ⟨_, rfl, LeO.lc (ClO.fE _)⟩, ⟨_, rfl, LeO.refl _ _⟩, ⟨_, rfl, LeO.refl _ _⟩, ⟨_, rfl, LeO.refl _ _⟩, trivial⟩⟩
            have ho : okT (x.name, x.parts) = true := by simpa using ho
            by_cases hn : findM rows x.name = none
            · by_cases hg20 : rows.length < 20
              · have hd : dnR rows x.kind x.name x.parts = (insR x.name x.parts rows, 0) := by unfold dnR; rw [hk, if_pos rfl, if_neg (by rw [ho]; decide), if_neg (by rw [hn]; simp), if_neg (by omega)]
                refine callGE2 [0, 6, 2, 7, 8, 9] (fun _ => .int .i64 0) (fun y => [(9, tbO 2 11), (11, .map (fE (setM m x.name x.parts))), (2, dkO 0 13 1073741824 y.lf y.op), (0, .map [(.str tN, .ptr 12 0)]), (13, .map [(.str tN, .ptr 12 0)]), (12, .cells [bs (encR (insR x.name x.parts rows)), .int .i64 (encR (insR x.name x.parts rows)).length])]) (createOk (l := rows) (m := m) (fs := none) (room := 1073741824) (lf := lf) (op := op) (k := x.name) (v := x.parts) rel good hg20 ho hn (fun _ h => (nomatch h)) (by decide)) rfl ⟨⟨by simp, rfl⟩, ⟨by simp, by rw [ClO.fE]; rfl⟩, ⟨by simp, rfl⟩, ⟨by simp, rfl⟩, ⟨by simp, rfl⟩, trivial⟩ rfl (fun _ _ => Le.refl _ _) (fun _ _ => ⟨⟨_, rfl, LeO.refl _ _⟩, ⟨_, rfl, LeO.cl (ClO.fE _)⟩, ⟨_, rfl, LeO.refl _ _⟩, ⟨_, rfl, LeO.refl _ _⟩, ⟨_, rfl, LeO.refl _ _⟩, ⟨_, rfl, LeO.cl (ClO.fil _)⟩, trivial⟩) fun y _ => ?_
                (conv => arg 4; whnf); repeat (refine ⟨rfl, ?_⟩; conv => arg 4; whnf)
                refine ret_in ?_
                show holds _ _ _ _
                conv => arg 4; whnf
                refine nth_in x.av ⟨by omega, stps_get hx⟩ ?_
                (conv => arg 4; whnf); repeat (refine ⟨rfl, ?_⟩; conv => arg 4; whnf)
                have cd := tDone (kd := x.kind) (v := x.parts) (k := x.name) rel.srt (by omega) (by omega)
                rw [hd] at cd
                dsimp only at cd
                refine call0 cd (ClL.cons (Cl.sl (ClL.rows rows)) (ClL.cons (Cl.stp x) ClL.nil)) (Cl.tup (ClL.cons (Cl.sl (ClL.rows _)) (ClL.cons (Cl.int _ _) ClL.nil))) ?_
                (conv => arg 4; whnf); repeat (refine ⟨rfl, ?_⟩; conv => arg 4; whnf)
                refine br_no (by decide) ?_
                (conv => arg 4; whnf); repeat (refine ⟨rfl, ?_⟩; conv => arg 4; whnf)
                refine callG2 [0, 13, 2, 12, 11, 9] (.bool true) [(9, tbO 2 11), (11, .map (fE (setM m x.name x.parts))), (2, dkO 0 13 1073741824 y.lf y.op), (0, .map [(.str tN, .ptr 12 0)]), (13, .map [(.str tN, .ptr 12 0)]), (12, .cells [bs (encR (insR x.name x.parts rows)), .int .i64 (encR (insR x.name x.parts rows)).length])] (tShows (rel.ins x.parts hn) (by have := (ins_len (k := x.name) (v := x.parts) hg20); omega)) rfl ⟨⟨by simp, rfl⟩, ⟨by simp, by rw [ClO.fE]; rfl⟩, trivial⟩ (by simp only [renL, ren]; rw [ClL.rows]; rfl) (Le.refl _ _) ⟨⟨_, rfl, LeO.refl _ _⟩, ⟨_, rfl, LeO.cl (ClO.fE _)⟩, ⟨_, rfl, LeO.refl _ _⟩, ⟨_, rfl, LeO.refl _ _⟩, ⟨_, rfl, LeO.refl _ _⟩, ⟨_, rfl, LeO.refl _ _⟩, trivial⟩ ?_
                (conv => arg 4; whnf); repeat (refine ⟨rfl, ?_⟩; conv => arg 4; whnf)
                refine br_no (by decide) ?_
                (conv => arg 4; whnf); repeat (refine ⟨rfl, ?_⟩; conv => arg 4; whnf)
                exact ⟨⟨i + 1, true, (insR x.name x.parts rows), (setM m x.name x.parts), y.lf, y.op, hlt, (rel.ins x.parts hn), (ins_good good ho), (ins_len (k := x.name) (v := x.parts) hg20), (fun h => by cases h)⟩, by show l.length - (i + 1) < l.length - i; omega, WkG.alias [0, 1, 2, 3, 4, 5, 13, 12, 11, 9] rfl rfl rfl ⟨Le.of_eq (succ21 (by omega)), Le.lc (Cl.sl (ClL.rows _)), Le.refl _ _, Le.refl _ _, Le.lc (Cl.stpsV _), Le.refl _ _, trivial⟩ ⟨⟨_, rfl, LeO.refl _ _⟩, ⟨_, rfl, LeO.lc (ClO.fE _)⟩, ⟨_, rfl, LeO.refl _ _⟩, ⟨_, rfl, LeO.refl _ _⟩, ⟨_, rfl, LeO.refl _ _⟩, ⟨_, rfl, LeO.lc (ClO.fil _)⟩, trivial⟩⟩
              · have hd : dnR rows x.kind x.name x.parts = (rows, 2) := by unfold dnR; rw [hk, if_pos rfl, if_neg (by rw [ho]; decide), if_neg (by rw [hn]; simp), if_pos (by omega)]
                refine callG2 [0, 6, 2, 7, 8, 9] (.int .i64 2) [(9, tbO 2 8), (8, .map (fE m)), (2, dkO 0 6 1073741824 lf op), (6, .map []), (0, .map [])] (createBad (l := rows) (m := m) (fs := none) (room := 1073741824) (lf := lf) (op := op) (k := x.name) (v := x.parts) rel (by omega) ho hn (by omega)) rfl ⟨⟨by simp, rfl⟩, ⟨by simp, by rw [ClO.fE]; rfl⟩, ⟨by simp, rfl⟩, ⟨by simp, rfl⟩, ⟨by simp, rfl⟩, trivial⟩ rfl (Le.refl _ _) ⟨⟨_, rfl, LeO.refl _ _⟩, ⟨_, rfl, LeO.cl (ClO.fE _)⟩, ⟨_, rfl, LeO.refl _ _⟩, ⟨_, rfl, LeO.refl _ _⟩, ⟨_, rfl, LeO.refl _ _⟩, trivial⟩ ?_
                (conv => arg 4; whnf); repeat (refine ⟨rfl, ?_⟩; conv => arg 4; whnf)
                refine ret_in ?_
                show holds _ _ _ _
                conv => arg 4; whnf
                refine nth_in x.av ⟨by omega, stps_get hx⟩ ?_
                (conv => arg 4; whnf); repeat (refine ⟨rfl, ?_⟩; conv => arg 4; whnf)
                have cd := tDone (kd := x.kind) (v := x.parts) (k := x.name) rel.srt (by omega) (by omega)
                rw [hd] at cd
                dsimp only at cd
                refine call0 cd (ClL.cons (Cl.sl (ClL.rows rows)) (ClL.cons (Cl.stp x) ClL.nil)) (Cl.tup (ClL.cons (Cl.sl (ClL.rows _)) (ClL.cons (Cl.int _ _) ClL.nil))) ?_
                (conv => arg 4; whnf); repeat (refine ⟨rfl, ?_⟩; conv => arg 4; whnf)
                refine br_no (by decide) ?_
                (conv => arg 4; whnf); repeat (refine ⟨rfl, ?_⟩; conv => arg 4; whnf)
                refine callG2 [0, 6, 2, 7, 8, 9] (.bool true) [(9, tbO 2 8), (8, .map (fE m)), (2, dkO 0 6 1073741824 lf op), (6, .map []), (0, .map [])] (tShows rel (by omega)) rfl ⟨⟨by simp, rfl⟩, ⟨by simp, by rw [ClO.fE]; rfl⟩, trivial⟩ (by simp only [renL, ren]; rw [ClL.rows]; rfl) (Le.refl _ _) ⟨⟨_, rfl, LeO.refl _ _⟩, ⟨_, rfl, LeO.cl (ClO.fE _)⟩, ⟨_, rfl, LeO.refl _ _⟩, ⟨_, rfl, LeO.refl _ _⟩, ⟨_, rfl, LeO.refl _ _⟩, trivial⟩ ?_
                (conv => arg 4; whnf); repeat (refine ⟨rfl, ?_⟩; conv => arg 4; whnf)
                refine br_no (by decide) ?_
                (conv => arg 4; whnf); repeat (refine ⟨rfl, ?_⟩; conv => arg 4; whnf)
                exact ⟨⟨i + 1, false, rows, m, lf, op, hlt, rel, good, len, emp⟩, by show l.length - (i + 1) < l.length - i; omega, WkG.alias [0, 1, 2, 3, 4, 5, 6, 7, 8, 9] rfl rfl rfl ⟨Le.of_eq (succ21 (by omega)), Le.lc (Cl.sl (ClL.rows _)), Le.refl _ _, Le.refl _ _, Le.lc (Cl.stpsV _), Le.refl _ _, trivial⟩ ⟨⟨_, rfl, LeO.refl _ _⟩, ⟨_, rfl, LeO.lc (ClO.fE _)⟩, ⟨_, rfl, LeO.refl _ _⟩, ⟨_, rfl, LeO.refl _ _⟩, ⟨_, rfl, LeO.refl _ _⟩, trivial⟩⟩
            · have hd : dnR rows x.kind x.name x.parts = (rows, 6) := by unfold dnR; rw [hk, if_pos rfl, if_neg (by rw [ho]; decide), if_pos hn]
              refine callG2 [0, 6, 2, 7, 8, 9] (.int .i64 6) [(9, tbO 2 8), (8, .map (fE m)), (2, dkO 0 6 1073741824 lf op), (6, .map []), (0, .map [])] (createThere (l := rows) (m := m) (fs := none) (room := 1073741824) (lf := lf) (op := op) (k := x.name) (v := x.parts) rel (by omega) ho hn) rfl ⟨⟨by simp, rfl⟩, ⟨by simp, by rw [ClO.fE]; rfl⟩, ⟨by simp, rfl⟩, ⟨by simp, rfl⟩, ⟨by simp, rfl⟩, trivial⟩ rfl (Le.refl _ _) ⟨⟨_, rfl, LeO.refl _ _⟩, ⟨_, rfl, LeO.cl (ClO.fE _)⟩, ⟨_, rfl, LeO.refl _ _⟩, ⟨_, rfl, LeO.refl _ _⟩, ⟨_, rfl, LeO.refl _ _⟩, trivial⟩ ?_
              (conv => arg 4; whnf); repeat (refine ⟨rfl, ?_⟩; conv => arg 4; whnf)
              refine ret_in ?_
              show holds _ _ _ _
              conv => arg 4; whnf
              refine nth_in x.av ⟨by omega, stps_get hx⟩ ?_
              (conv => arg 4; whnf); repeat (refine ⟨rfl, ?_⟩; conv => arg 4; whnf)
              have cd := tDone (kd := x.kind) (v := x.parts) (k := x.name) rel.srt (by omega) (by omega)
              rw [hd] at cd
              dsimp only at cd
              refine call0 cd (ClL.cons (Cl.sl (ClL.rows rows)) (ClL.cons (Cl.stp x) ClL.nil)) (Cl.tup (ClL.cons (Cl.sl (ClL.rows _)) (ClL.cons (Cl.int _ _) ClL.nil))) ?_
              (conv => arg 4; whnf); repeat (refine ⟨rfl, ?_⟩; conv => arg 4; whnf)
              refine br_no (by decide) ?_
              (conv => arg 4; whnf); repeat (refine ⟨rfl, ?_⟩; conv => arg 4; whnf)
              refine callG2 [0, 6, 2, 7, 8, 9] (.bool true) [(9, tbO 2 8), (8, .map (fE m)), (2, dkO 0 6 1073741824 lf op), (6, .map []), (0, .map [])] (tShows rel (by omega)) rfl ⟨⟨by simp, rfl⟩, ⟨by simp, by rw [ClO.fE]; rfl⟩, trivial⟩ (by simp only [renL, ren]; rw [ClL.rows]; rfl) (Le.refl _ _) ⟨⟨_, rfl, LeO.refl _ _⟩, ⟨_, rfl, LeO.cl (ClO.fE _)⟩, ⟨_, rfl, LeO.refl _ _⟩, ⟨_, rfl, LeO.refl _ _⟩, ⟨_, rfl, LeO.refl _ _⟩, trivial⟩ ?_
              (conv => arg 4; whnf); repeat (refine ⟨rfl, ?_⟩; conv => arg 4; whnf)
              refine br_no (by decide) ?_
              (conv => arg 4; whnf); repeat (refine ⟨rfl, ?_⟩; conv => arg 4; whnf)
              exact ⟨⟨i + 1, false, rows, m, lf, op, hlt, rel, good, len, emp⟩, by show l.length - (i + 1) < l.length - i; omega, WkG.alias [0, 1, 2, 3, 4, 5, 6, 7, 8, 9] rfl rfl rfl ⟨Le.of_eq (succ21 (by omega)), Le.lc (Cl.sl (ClL.rows _)), Le.refl _ _, Le.refl _ _, Le.lc (Cl.stpsV _), Le.refl _ _, trivial⟩ ⟨⟨_, rfl, LeO.refl _ _⟩, ⟨_, rfl, LeO.lc (ClO.fE _)⟩, ⟨_, rfl, LeO.refl _ _⟩, ⟨_, rfl, LeO.refl _ _⟩, ⟨_, rfl, LeO.refl _ _⟩, trivial⟩⟩
          · have hk1 : x.kind ≠ 1 := by simpa using hk
            (conv => arg 4; whnf); repeat (refine ⟨rfl, ?_⟩; conv => arg 4; whnf)
            refine br_in (fun hk => ?_) (fun hk => ?_)
            · have hk : x.kind = 2 := by simpa using hk
              (conv => arg 4; whnf); repeat (refine ⟨rfl, ?_⟩; conv => arg 4; whnf)
              by_cases hn : findM rows x.name = none
              · have hd : dnR rows x.kind x.name x.parts = (rows, 5) := by unfold dnR; rw [if_neg hk1, if_pos hk, if_pos hn]
                refine callG2 [0, 6, 2, 7, 8, 9] (.int .i64 5) [(9, tbO 2 8), (8, .map (fE m)), (2, dkO 0 6 1073741824 lf op), (6, .map []), (0, .map [])] (deleteNone (l := rows) (m := m) (fs := none) (room := 1073741824) (lf := lf) (op := op) (k := x.name) (v := 0) rel hn) rfl ⟨⟨by simp, rfl⟩, ⟨by simp, by rw [ClO.fE]; rfl⟩, ⟨by simp, rfl⟩, ⟨by simp, rfl⟩, ⟨by simp, rfl⟩, trivial⟩ rfl (Le.refl _ _) ⟨⟨_, rfl, LeO.refl _ _⟩, ⟨_, rfl, LeO.cl (ClO.fE _)⟩, ⟨_, rfl, LeO.refl _ _⟩, ⟨_, rfl, LeO.refl _ _⟩, ⟨_, rfl, LeO.refl _ _⟩, trivial⟩ ?_
                (conv => arg 4; whnf); repeat (refine ⟨rfl, ?_⟩; conv => arg 4; whnf)
                refine ret_in ?_
                show holds _ _ _ _
                conv => arg 4; whnf
                refine nth_in x.av ⟨by omega, stps_get hx⟩ ?_
                (conv => arg 4; whnf); repeat (refine ⟨rfl, ?_⟩; conv => arg 4; whnf)
                have cd := tDone (kd := x.kind) (v := x.parts) (k := x.name) rel.srt (by omega) (by omega)
                rw [hd] at cd
                dsimp only at cd
                refine call0 cd (ClL.cons (Cl.sl (ClL.rows rows)) (ClL.cons (Cl.stp x) ClL.nil)) (Cl.tup (ClL.cons (Cl.sl (ClL.rows _)) (ClL.cons (Cl.int _ _) ClL.nil))) ?_
                (conv => arg 4; whnf); repeat (refine ⟨rfl, ?_⟩; conv => arg 4; whnf)
                refine br_no (by decide) ?_
                (conv => arg 4; whnf); repeat (refine ⟨rfl, ?_⟩; conv => arg 4; whnf)
                refine callG2 [0, 6, 2, 7, 8, 9] (.bool true) [(9, tbO 2 8), (8, .map (fE m)), (2, dkO 0 6 1073741824 lf op), (6, .map []), (0, .map [])] (tShows rel (by omega)) rfl ⟨⟨by simp, rfl⟩, ⟨by simp, by rw [ClO.fE]; rfl⟩, trivial⟩ (by simp only [renL, ren]; rw [ClL.rows]; rfl) (Le.refl _ _) ⟨⟨_, rfl, LeO.refl _ _⟩, ⟨_, rfl, LeO.cl (ClO.fE _)⟩, ⟨_, rfl, LeO.refl _ _⟩, ⟨_, rfl, LeO.refl _ _⟩, ⟨_, rfl, LeO.refl _ _⟩, trivial⟩ ?_
                (conv => arg 4; whnf); repeat (refine ⟨rfl, ?_⟩; conv => arg 4; whnf)
                refine br_no (by decide) ?_
                (conv => arg 4; whnf); repeat (refine ⟨rfl, ?_⟩; conv => arg 4; whnf)
                exact ⟨⟨i + 1, false, rows, m, lf, op, hlt, rel, good, len, emp⟩, by show l.length - (i + 1) < l.length - i; omega, WkG.alias [0, 1, 2, 3, 4, 5, 6, 7, 8, 9] rfl rfl rfl ⟨Le.of_eq (succ21 (by omega)), Le.lc (Cl.sl (ClL.rows _)), Le.refl _ _, Le.refl _ _, Le.lc (Cl.stpsV _), Le.refl _ _, trivial⟩ ⟨⟨_, rfl, LeO.refl _ _⟩, ⟨_, rfl, LeO.lc (ClO.fE _)⟩, ⟨_, rfl, LeO.refl _ _⟩, ⟨_, rfl, LeO.refl _ _⟩, ⟨_, rfl, LeO.refl _ _⟩, trivial⟩⟩
              · have hd : dnR rows x.kind x.name x.parts = (remR x.name rows, 0) := by unfold dnR; rw [if_neg hk1, if_pos hk, if_neg hn]
                refine callGE2 [0, 6, 2, 7, 8, 9] (fun _ => .int .i64 0) (fun y => [(9, tbO 2 11), (11, .map (fE (delM m x.name))), (2, dkO 0 13 1073741824 y.lf y.op), (0, .map [(.str tN, .ptr 12 0)]), (13, .map [(.str tN, .ptr 12 0)]), (12, .cells [bs (encR (remR x.name rows)), .int .i64 (encR (remR x.name rows)).length])]) (deleteOk (l := rows) (m := m) (fs := none) (room := 1073741824) (lf := lf) (op := op) (k := x.name) rel good len hn (fun _ h => (nomatch h)) (by decide)) rfl ⟨⟨by simp, rfl⟩, ⟨by simp, by rw [ClO.fE]; rfl⟩, ⟨by simp, rfl⟩, ⟨by simp, rfl⟩, ⟨by simp, rfl⟩, trivial⟩ rfl (fun _ _ => Le.refl _ _) (fun _ _ => ⟨⟨_, rfl, LeO.refl _ _⟩, ⟨_, rfl, LeO.cl (ClO.fE _)⟩, ⟨_, rfl, LeO.refl _ _⟩, ⟨_, rfl, LeO.refl _ _⟩, ⟨_, rfl, LeO.refl _ _⟩, ⟨_, rfl, LeO.cl (ClO.fil _)⟩, trivial⟩) fun y _ => ?_
                (conv => arg 4; whnf); repeat (refine ⟨rfl, ?_⟩; conv => arg 4; whnf)
                refine ret_in ?_
                show holds _ _ _ _
                conv => arg 4; whnf
                refine nth_in x.av ⟨by omega, stps_get hx⟩ ?_
                (conv => arg 4; whnf); repeat (refine ⟨rfl, ?_⟩; conv => arg 4; whnf)
                have cd := tDone (kd := x.kind) (v := x.parts) (k := x.name) rel.srt (by omega) (by omega)
                rw [hd] at cd
                dsimp only at cd
                refine call0 cd (ClL.cons (Cl.sl (ClL.rows rows)) (ClL.cons (Cl.stp x) ClL.nil)) (Cl.tup (ClL.cons (Cl.sl (ClL.rows _)) (ClL.cons (Cl.int _ _) ClL.nil))) ?_
                (conv => arg 4; whnf); repeat (refine ⟨rfl, ?_⟩; conv => arg 4; whnf)
                refine br_no (by decide) ?_
                (conv => arg 4; whnf); repeat (refine ⟨rfl, ?_⟩; conv => arg 4; whnf)
                refine callG2 [0, 13, 2, 12, 11, 9] (.bool true) [(9, tbO 2 11), (11, .map (fE (delM m x.name))), (2, dkO 0 13 1073741824 y.lf y.op), (0, .map [(.str tN, .ptr 12 0)]), (13, .map [(.str tN, .ptr 12 0)]), (12, .cells [bs (encR (remR x.name rows)), .int .i64 (encR (remR x.name rows)).length])] (tShows (rel.rem hn) (by have := (Nat.le_trans (rem_len x.name rows) len); omega)) rfl ⟨⟨by simp, rfl⟩, ⟨by simp, by rw [ClO.fE]; rfl⟩, trivial⟩ (by simp only [renL, ren]; rw [ClL.rows]; rfl) (Le.refl _ _) ⟨⟨_, rfl, LeO.refl _ _⟩, ⟨_, rfl, LeO.cl (ClO.fE _)⟩, ⟨_, rfl, LeO.refl _ _⟩, ⟨_, rfl, LeO.refl _ _⟩, ⟨_, rfl, LeO.refl _ _⟩, ⟨_, rfl, LeO.refl _ _⟩, trivial⟩ ?_
                (conv => arg 4; whnf); repeat (refine ⟨rfl, ?_⟩; conv => arg 4; whnf)
                refine br_no (by decide) ?_
                (conv => arg 4; whnf); repeat (refine ⟨rfl, ?_⟩; conv => arg 4; whnf)
                exact ⟨⟨i + 1, true, (remR x.name rows), (delM m x.name), y.lf, y.op, hlt, (rel.rem hn), (rem_good good), (Nat.le_trans (rem_len x.name rows) len), (fun h => by cases h)⟩, by show l.length - (i + 1) < l.length - i; omega, WkG.alias [0, 1, 2, 3, 4, 5, 13, 12, 11, 9] rfl rfl rfl ⟨Le.of_eq (succ21 (by omega)), Le.lc (Cl.sl (ClL.rows _)), Le.refl _ _, Le.refl _ _, Le.lc (Cl.stpsV _), Le.refl _ _, trivial⟩ ⟨⟨_, rfl, LeO.refl _ _⟩, ⟨_, rfl, LeO.lc (ClO.fE _)⟩, ⟨_, rfl, LeO.refl _ _⟩, ⟨_, rfl, LeO.refl _ _⟩, ⟨_, rfl, LeO.refl _ _⟩, ⟨_, rfl, LeO.lc (ClO.fil _)⟩, trivial⟩⟩
            · have hk2 : x.kind ≠ 2 := by simpa using hk
              have hd : dnR rows x.kind x.name x.parts = (rows, 0) := by unfold dnR; rw [if_neg hk1, if_neg hk2]
              (conv => arg 4; whnf); repeat (refine ⟨rfl, ?_⟩; conv => arg 4; whnf)
              refine ret_in ?_
              show holds _ _ _ _
              conv => arg 4; whnf
              refine nth_in x.av ⟨by omega, stps_get hx⟩ ?_
              (conv => arg 4; whnf); repeat (refine ⟨rfl, ?_⟩; conv => arg 4; whnf)
              have cd := tDone (kd := x.kind) (v := x.parts) (k := x.name) rel.srt (by omega) (by omega)
              rw [hd] at cd
              dsimp only at cd
              refine call0 cd (ClL.cons (Cl.sl (ClL.rows rows)) (ClL.cons (Cl.stp x) ClL.nil)) (Cl.tup (ClL.cons (Cl.sl (ClL.rows _)) (ClL.cons (Cl.int _ _) ClL.nil))) ?_
              (conv => arg 4; whnf); repeat (refine ⟨rfl, ?_⟩; conv => arg 4; whnf)
              refine br_no (by decide) ?_
              (conv => arg 4; whnf); repeat (refine ⟨rfl, ?_⟩; conv => arg 4; whnf)
              refine callG2 [0, 6, 2, 7, 8, 9] (.bool true) [(9, tbO 2 8), (8, .map (fE m)), (2, dkO 0 6 1073741824 lf op), (6, .map []), (0, .map [])] (tShows rel (by omega)) rfl ⟨⟨by simp, rfl⟩, ⟨by simp, by rw [ClO.fE]; rfl⟩, trivial⟩ (by simp only [renL, ren]; rw [ClL.rows]; rfl) (Le.refl _ _) ⟨⟨_, rfl, LeO.refl _ _⟩, ⟨_, rfl, LeO.cl (ClO.fE _)⟩, ⟨_, rfl, LeO.refl _ _⟩, ⟨_, rfl, LeO.refl _ _⟩, ⟨_, rfl, LeO.refl _ _⟩, trivial⟩ ?_
              (conv => arg 4; whnf); repeat (refine ⟨rfl, ?_⟩; conv => arg 4; whnf)
              refine br_no (by decide) ?_
              (conv => arg 4; whnf); repeat (refine ⟨rfl, ?_⟩; conv => arg 4; whnf)
              exact ⟨⟨i + 1, false, rows, m, lf, op, hlt, rel, good, len, emp⟩, by show l.length - (i + 1) < l.length - i; omega, WkG.alias [0, 1, 2, 3, 4, 5, 6, 7, 8, 9] rfl rfl rfl ⟨Le.of_eq (succ21 (by omega)), Le.lc (Cl.sl (ClL.rows _)), Le.refl _ _, Le.refl _ _, Le.lc (Cl.stpsV _), Le.refl _ _, trivial⟩ ⟨⟨_, rfl, LeO.refl _ _⟩, ⟨_, rfl, LeO.lc (ClO.fE _)⟩, ⟨_, rfl, LeO.refl _ _⟩, ⟨_, rfl, LeO.refl _ _⟩, ⟨_, rfl, LeO.refl _ _⟩, trivial⟩⟩
      · have hlt : i = l.length := by rw [stps_length] at hlt; simp at hlt; omega
        (conv => arg 4; whnf); repeat (refine ⟨rfl, ?_⟩; conv => arg 4; whnf)
        refine fin_exit ?_
        show holds _ _ _ _
        conv => arg 4; whnf
        refine callG2 [0, 6, 2, 7, 8, 9] (.tup [.int .i64 ((findM rows look).getD 0), .bool (findM rows look).isSome]) [(9, tbO 2 8), (8, .map (fE m)), (2, dkO 0 6 1073741824 lf op), (6, .map []), (0, .map [])] (partsOf (l := rows) (m := m) (fs := none) (room := 1073741824) (lf := lf) (op := op) (k := look) (v := 0) rel) rfl ⟨⟨by simp, rfl⟩, ⟨by simp, by rw [ClO.fE]; rfl⟩, ⟨by simp, rfl⟩, ⟨by simp, rfl⟩, ⟨by simp, rfl⟩, trivial⟩ rfl (Le.refl _ _) ⟨⟨_, rfl, LeO.refl _ _⟩, ⟨_, rfl, LeO.cl (ClO.fE _)⟩, ⟨_, rfl, LeO.refl _ _⟩, ⟨_, rfl, LeO.refl _ _⟩, ⟨_, rfl, LeO.refl _ _⟩, trivial⟩ ?_
        (conv => arg 4; whnf); repeat (refine ⟨rfl, ?_⟩; conv => arg 4; whnf)
        refine call0 (tFind (l := rows) (k := look) rel.srt (by omega)) (ClL.cons (Cl.sl (ClL.rows rows)) (ClL.cons (Cl.str _) ClL.nil)) (by (repeat' (first | with_reducible assumption | exact ClL.nil | exact Cl.int _ _ | exact Cl.bool _ | exact Cl.bl _ | exact Cl.bs _ | exact Cl.str _ | exact Cl.nils | exact Cl.nilp | exact Cl.rec _ | exact Cl.bat _ | exact Cl.recsV _ | exact Cl.strsV _ | exact Cl.intsV _ | exact Cl.req _ | exact Cl.rsp _ | exact Cl.reqA _ | exact Cl.rspA _ | exact Cl.batsV _ | exact Cl.prsV _ | exact Cl.atsV _ | exact Cl.entA _ _ | exact Cl.ent _ | exact Cl.rr _ _ | exact Cl.foundA _ | exact Cl.getB _ | exact Cl.encA _ | exact Cl.firstA _ | refine ClL.cons ?_ ?_ | refine Cl.tup ?_ | refine Cl.agg ?_ | exact ClO.RO _ _))) ?_
        (conv => arg 4; whnf); repeat (refine ⟨rfl, ?_⟩; conv => arg 4; whnf)
        refine br_yes (by simp) ?_
        (conv => arg 4; whnf); repeat (refine ⟨rfl, ?_⟩; conv => arg 4; whnf)
        refine callG2 [0, 6, 2, 7, 8, 9] (.bl false) [(9, tbO 2 8), (8, .map (fE m)), (2, dkO 0 6 1073741824 lf op), (6, .map []), (0, .map [])] (deadNo (l := rows) (m := m) (fs := none) (room := 1073741824) (lf := lf) (op := op) (k := []) (v := 0)) rfl ⟨⟨by simp, rfl⟩, ⟨by simp, by rw [ClO.fE]; rfl⟩, ⟨by simp, rfl⟩, ⟨by simp, rfl⟩, ⟨by simp, rfl⟩, trivial⟩ rfl (Le.refl _ _) ⟨⟨_, rfl, LeO.refl _ _⟩, ⟨_, rfl, LeO.cl (ClO.fE _)⟩, ⟨_, rfl, LeO.refl _ _⟩, ⟨_, rfl, LeO.refl _ _⟩, ⟨_, rfl, LeO.refl _ _⟩, trivial⟩ ?_
        (conv => arg 4; whnf); repeat (refine ⟨rfl, ?_⟩; conv => arg 4; whnf)
        refine call0 awake21 (by (repeat' (first | with_reducible assumption | exact ClL.nil | exact Cl.int _ _ | exact Cl.bool _ | exact Cl.bl _ | exact Cl.bs _ | exact Cl.str _ | exact Cl.nils | exact Cl.nilp | exact Cl.rec _ | exact Cl.bat _ | exact Cl.recsV _ | exact Cl.strsV _ | exact Cl.intsV _ | exact Cl.req _ | exact Cl.rsp _ | exact Cl.reqA _ | exact Cl.rspA _ | exact Cl.batsV _ | exact Cl.prsV _ | exact Cl.atsV _ | exact Cl.entA _ _ | exact Cl.ent _ | exact Cl.rr _ _ | exact Cl.foundA _ | exact Cl.getB _ | exact Cl.encA _ | exact Cl.firstA _ | refine ClL.cons ?_ ?_ | refine Cl.tup ?_ | refine Cl.agg ?_ | exact ClO.RO _ _))) (by (repeat' (first | with_reducible assumption | exact ClL.nil | exact Cl.int _ _ | exact Cl.bool _ | exact Cl.bl _ | exact Cl.bs _ | exact Cl.str _ | exact Cl.nils | exact Cl.nilp | exact Cl.rec _ | exact Cl.bat _ | exact Cl.recsV _ | exact Cl.strsV _ | exact Cl.intsV _ | exact Cl.req _ | exact Cl.rsp _ | exact Cl.reqA _ | exact Cl.rspA _ | exact Cl.batsV _ | exact Cl.prsV _ | exact Cl.atsV _ | exact Cl.entA _ _ | exact Cl.ent _ | exact Cl.rr _ _ | exact Cl.foundA _ | exact Cl.getB _ | exact Cl.encA _ | exact Cl.firstA _ | refine ClL.cons ?_ ?_ | refine Cl.tup ?_ | refine Cl.agg ?_ | exact ClO.RO _ _))) ?_
        (conv => arg 4; whnf); repeat (refine ⟨rfl, ?_⟩; conv => arg 4; whnf)
        exact .inl rfl
    | true =>
      (conv => arg 4; whnf); repeat (refine ⟨rfl, ?_⟩; conv => arg 4; whnf)
      refine br_in (fun hlt => ?_) (fun hlt => ?_)
      · have hlt : i < l.length := by rw [stps_length] at hlt; simp at hlt; omega
        obtain ⟨x, hx⟩ : ∃ x, l[i]? = some x := ⟨_, List.getElem?_eq_getElem hlt⟩
        have hxl := hlit x (List.mem_of_getElem? hx)
        (conv => arg 4; whnf); repeat (refine ⟨rfl, ?_⟩; conv => arg 4; whnf)
        refine nth_in x.av ⟨by omega, stps_get hx⟩ ?_
        (conv => arg 4; whnf); repeat (refine ⟨rfl, ?_⟩; conv => arg 4; whnf)
        refine br_in (fun hk => ?_) (fun hk => ?_)
        · have hk : x.kind = 3 := by simpa using hk
          (conv => arg 4; whnf); repeat (refine ⟨rfl, ?_⟩; conv => arg 4; whnf)
          refine callG2 [0, 6, 2, 7] (.tup [.ptr 11 0, .int .i64 0]) [(11, tbO 2 10), (10, .map (fE rows)), (2, dkO 0 6 1073741824 lf op), (6, .map [(.str tN, .ptr 7 0)]), (0, .map [(.str tN, .ptr 7 0)]), (7, .cells [bs (encR rows), .int .i64 (encR rows).length])] (open1 (l := rows) (room := 1073741824) (lf := lf) (op := op) rel.srt good (by omega)) rfl ⟨⟨by simp, rfl⟩, ⟨by simp, rfl⟩, ⟨by simp, rfl⟩, ⟨by simp, by rw [ClO.fil]; rfl⟩, trivial⟩ rfl (Le.refl _ _) ⟨⟨_, rfl, LeO.refl _ _⟩, ⟨_, rfl, LeO.cl (ClO.fE _)⟩, ⟨_, rfl, LeO.refl _ _⟩, ⟨_, rfl, LeO.refl _ _⟩, ⟨_, rfl, LeO.refl _ _⟩, ⟨_, rfl, LeO.cl (ClO.fil _)⟩, trivial⟩ ?_
          (conv => arg 4; whnf); repeat (refine ⟨rfl, ?_⟩; conv => arg 4; whnf)
          refine br_no (by decide) ?_
          (conv => arg 4; whnf); repeat (refine ⟨rfl, ?_⟩; conv => arg 4; whnf)
          refine callG2 [0, 6, 2, 7, 10, 11] (.bool true) [(11, tbO 2 10), (10, .map (fE rows)), (2, dkO 0 6 1073741824 lf op), (6, .map [(.str tN, .ptr 7 0)]), (0, .map [(.str tN, .ptr 7 0)]), (7, .cells [bs (encR rows), .int .i64 (encR rows).length])] (tShows (RelT.self rel.srt) (by omega)) rfl ⟨⟨by simp, rfl⟩, ⟨by simp, by rw [ClO.fE]; rfl⟩, trivial⟩ (by simp only [renL, ren]; rw [ClL.rows]; rfl) (Le.refl _ _) ⟨⟨_, rfl, LeO.refl _ _⟩, ⟨_, rfl, LeO.cl (ClO.fE _)⟩, ⟨_, rfl, LeO.refl _ _⟩, ⟨_, rfl, LeO.refl _ _⟩, ⟨_, rfl, LeO.refl _ _⟩, ⟨_, rfl, LeO.refl _ _⟩, trivial⟩ ?_
          (conv => arg 4; whnf); repeat (refine ⟨rfl, ?_⟩; conv => arg 4; whnf)
          refine br_no (by decide) ?_
          (conv => arg 4; whnf); repeat (refine ⟨rfl, ?_⟩; conv => arg 4; whnf)
          exact ⟨⟨i + 1, true, rows, rows, lf, op, hlt, (RelT.self rel.srt), good, len, (fun h => by cases h)⟩, by show l.length - (i + 1) < l.length - i; omega, WkG.alias [0, 1, 2, 3, 4, 5, 6, 7, 10, 11] rfl rfl rfl ⟨Le.of_eq (succ21 (by omega)), Le.lc (Cl.sl (ClL.rows _)), Le.refl _ _, Le.refl _ _, Le.lc (Cl.stpsV _), Le.refl _ _, trivial⟩ ⟨⟨_, rfl, LeO.refl _ _⟩, ⟨_, rfl, LeO.lc (ClO.fE _)⟩, ⟨_, rfl, LeO.refl _ _⟩, ⟨_, rfl, LeO.refl _ _⟩, ⟨_, rfl, LeO.refl _ _⟩, ⟨_, rfl, LeO.lc (ClO.fil _)⟩, trivial⟩⟩
        · have hk3 : x.kind ≠ 3 := by simpa using hk
          (conv => arg 4; whnf); repeat (refine ⟨rfl, ?_⟩; conv => arg 4; whnf)
          refine nth_in x.av ⟨by omega, stps_get hx⟩ ?_
          (conv => arg 4; whnf); repeat (refine ⟨rfl, ?_⟩; conv => arg 4; whnf)
          refine callOK Try.call35 Try.func35 Try.ntmps35 rfl ?_
          (conv => arg 4; whnf); repeat (refine ⟨rfl, ?_⟩; conv => arg 4; whnf)
          refine br_in (fun hk => ?_) (fun hk => ?_)
          · have hk : x.kind = 1 := by simpa using hk
            (conv => arg 4; whnf); repeat (refine ⟨rfl, ?_⟩; conv => arg 4; whnf)
            by_cases ho : okT (x.name, x.parts) = false
            · have hd : dnR rows x.kind x.name x.parts = (rows, 1) := by unfold dnR; rw [hk, if_pos rfl, if_pos ho]
              refine callG2 [0, 6, 2, 7, 8, 9] (.int .i64 1) [(9, tbO 2 8), (8, .map (fE m)), (2, dkO 0 6 1073741824 lf op), (6, .map [(.str tN, .ptr 7 0)]), (0, .map [(.str tN, .ptr 7 0)]), (7, .cells [bs (encR rows), .int .i64 (encR rows).length])] (createArg (l := rows) (m := m) (fs := (some (encR rows))) (room := 1073741824) (lf := lf) (op := op) (k := x.name) (v := x.parts) (by omega) ho) rfl ⟨⟨by simp, rfl⟩, ⟨by simp, by rw [ClO.fE]; rfl⟩, ⟨by simp, rfl⟩, ⟨by simp, rfl⟩, ⟨by simp, rfl⟩, ⟨by simp, by rw [ClO.fil]; rfl⟩, trivial⟩ rfl (Le.refl _ _) ⟨⟨_, rfl, LeO.refl _ _⟩, ⟨_, rfl, LeO.cl (ClO.fE _)⟩, ⟨_, rfl, LeO.refl _ _⟩, ⟨_, rfl, LeO.refl _ _⟩, ⟨_, rfl, LeO.refl _ _⟩, ⟨_, rfl, LeO.cl (ClO.fil _)⟩, trivial⟩ ?_
              (conv => arg 4; whnf); repeat (refine ⟨rfl, ?_⟩; conv => arg 4; whnf)
              refine ret_in ?_
              show holds _ _ _ _
              conv => arg 4; whnf
              refine nth_in x.av ⟨by omega, stps_get hx⟩ ?_
              (conv => arg 4; whnf); repeat (refine ⟨rfl, ?_⟩; conv => arg 4; whnf)
              have cd := tDone (kd := x.kind) (v := x.parts) (k := x.name) rel.srt (by omega) (by omega)
              rw [hd] at cd
              dsimp only at cd
              refine call0 cd (ClL.cons (Cl.sl (ClL.rows rows)) (ClL.cons (Cl.stp x) ClL.nil)) (Cl.tup (ClL.cons (Cl.sl (ClL.rows _)) (ClL.cons (Cl.int _ _) ClL.nil))) ?_
              (conv => arg 4; whnf); repeat (refine ⟨rfl, ?_⟩; conv => arg 4; whnf)
              refine br_no (by decide) ?_
              (conv => arg 4; whnf); repeat (refine ⟨rfl, ?_⟩; conv => arg 4; whnf)
              refine callG2 [0, 6, 2, 7, 8, 9] (.bool true) [(9, tbO 2 8), (8, .map (fE m)), (2, dkO 0 6 1073741824 lf op), (6, .map [(.str tN, .ptr 7 0)]), (0, .map [(.str tN, .ptr 7 0)]), (7, .cells [bs (encR rows), .int .i64 (encR rows).length])] (tShows rel (by omega)) rfl ⟨⟨by simp, rfl⟩, ⟨by simp, by rw [ClO.fE]; rfl⟩, trivial⟩ (by simp only [renL, ren]; rw [ClL.rows]; rfl) (Le.refl _ _) ⟨⟨_, rfl, LeO.refl _ _⟩, ⟨_, rfl, LeO.cl (ClO.fE _)⟩, ⟨_, rfl, LeO.refl _ _⟩, ⟨_, rfl, LeO.refl _ _⟩, ⟨_, rfl, LeO.refl _ _⟩, ⟨_, rfl, LeO.refl _ _⟩, trivial⟩ ?_
              (conv => arg 4; whnf); repeat (refine ⟨rfl, ?_⟩; conv => arg 4; whnf)
              refine br_no (by decide) ?_
              (conv => arg 4; whnf); repeat (refine ⟨rfl, ?_⟩; conv => arg 4; whnf)
              exact ⟨⟨i + 1, true, rows, m, lf, op, hlt, rel, good, len, (fun h => by cases h)⟩, by show l.length - (i + 1) < l.length - i; omega, WkG.alias [0, 1, 2, 3, 4, 5, 6, 7, 8, 9] rfl rfl rfl ⟨Le.of_eq (succ21 (by omega)), Le.lc (Cl.sl (ClL.rows _)), Le.refl _ _, Le.refl _ _, Le.lc (Cl.stpsV _), Le.refl _ _, trivial⟩ ⟨⟨_, rfl, LeO.refl _ _⟩, ⟨_, rfl, LeO.lc (ClO.fE _)⟩, ⟨_, rfl, LeO.refl _ _⟩, ⟨_, rfl, LeO.refl _ _⟩, ⟨_, rfl, LeO.refl _ _⟩, ⟨_, rfl, LeO.lc (ClO.fil _)⟩, trivial⟩⟩
            have ho : okT (x.name, x.parts) = true := by simpa using ho
            by_cases hn : findM rows x.name = none
            · by_cases hg20 : rows.length < 20
              · have hd : dnR rows x.kind x.name x.parts = (insR x.name x.parts rows, 0) := by unfold dnR; rw [hk, if_pos rfl, if_neg (by rw [ho]; decide), if_neg (by rw [hn]; simp), if_neg (by omega)]
                refine callGE2 [0, 6, 2, 7, 8, 9] (fun _ => .int .i64 0) (fun y => [(9, tbO 2 11), (11, .map (fE (setM m x.name x.parts))), (2, dkO 0 13 1073741824 y.lf y.op), (0, .map [(.str tN, .ptr 12 0)]), (13, .map [(.str tN, .ptr 12 0)]), (12, .cells [bs (encR (insR x.name x.parts rows)), .int .i64 (encR (insR x.name x.parts rows)).length])]) (createOk (l := rows) (m := m) (fs := (some (encR rows))) (room := 1073741824) (lf := lf) (op := op) (k := x.name) (v := x.parts) rel good hg20 ho hn (fun b hb => by cases hb; exact Nat.le_trans (encR_len good.fine (by omega)) (by decide)) (by decide)) rfl ⟨⟨by simp, rfl⟩, ⟨by simp, by rw [ClO.fE]; rfl⟩, ⟨by simp, rfl⟩, ⟨by simp, rfl⟩, ⟨by simp, rfl⟩, ⟨by simp, by rw [ClO.fil]; rfl⟩, trivial⟩ rfl (fun _ _ => Le.refl _ _) (fun _ _ => ⟨⟨_, rfl, LeO.refl _ _⟩, ⟨_, rfl, LeO.cl (ClO.fE _)⟩, ⟨_, rfl, LeO.refl _ _⟩, ⟨_, rfl, LeO.refl _ _⟩, ⟨_, rfl, LeO.refl _ _⟩, ⟨_, rfl, LeO.cl (ClO.fil _)⟩, trivial⟩) fun y _ => ?_
                (conv => arg 4; whnf); repeat (refine ⟨rfl, ?_⟩; conv => arg 4; whnf)
                refine ret_in ?_
                show holds _ _ _ _
                conv => arg 4; whnf
                refine nth_in x.av ⟨by omega, stps_get hx⟩ ?_
                (conv => arg 4; whnf); repeat (refine ⟨rfl, ?_⟩; conv => arg 4; whnf)
                have cd := tDone (kd := x.kind) (v := x.parts) (k := x.name) rel.srt (by omega) (by omega)
                rw [hd] at cd
                dsimp only at cd
                refine call0 cd (ClL.cons (Cl.sl (ClL.rows rows)) (ClL.cons (Cl.stp x) ClL.nil)) (Cl.tup (ClL.cons (Cl.sl (ClL.rows _)) (ClL.cons (Cl.int _ _) ClL.nil))) ?_
                (conv => arg 4; whnf); repeat (refine ⟨rfl, ?_⟩; conv => arg 4; whnf)
                refine br_no (by decide) ?_
                (conv => arg 4; whnf); repeat (refine ⟨rfl, ?_⟩; conv => arg 4; whnf)
                refine callG2 [0, 13, 2, 12, 11, 9] (.bool true) [(9, tbO 2 11), (11, .map (fE (setM m x.name x.parts))), (2, dkO 0 13 1073741824 y.lf y.op), (0, .map [(.str tN, .ptr 12 0)]), (13, .map [(.str tN, .ptr 12 0)]), (12, .cells [bs (encR (insR x.name x.parts rows)), .int .i64 (encR (insR x.name x.parts rows)).length])] (tShows (rel.ins x.parts hn) (by have := (ins_len (k := x.name) (v := x.parts) hg20); omega)) rfl ⟨⟨by simp, rfl⟩, ⟨by simp, by rw [ClO.fE]; rfl⟩, trivial⟩ (by simp only [renL, ren]; rw [ClL.rows]; rfl) (Le.refl _ _) ⟨⟨_, rfl, LeO.refl _ _⟩, ⟨_, rfl, LeO.cl (ClO.fE _)⟩, ⟨_, rfl, LeO.refl _ _⟩, ⟨_, rfl, LeO.refl _ _⟩, ⟨_, rfl, LeO.refl _ _⟩, ⟨_, rfl, LeO.refl _ _⟩, trivial⟩ ?_
                (conv => arg 4; whnf); repeat (refine ⟨rfl, ?_⟩; conv => arg 4; whnf)
                refine br_no (by decide) ?_
                (conv => arg 4; whnf); repeat (refine ⟨rfl, ?_⟩; conv => arg 4; whnf)
                exact ⟨⟨i + 1, true, (insR x.name x.parts rows), (setM m x.name x.parts), y.lf, y.op, hlt, (rel.ins x.parts hn), (ins_good good ho), (ins_len (k := x.name) (v := x.parts) hg20), (fun h => by cases h)⟩, by show l.length - (i + 1) < l.length - i; omega, WkG.alias [0, 1, 2, 3, 4, 5, 13, 12, 11, 9] rfl rfl rfl ⟨Le.of_eq (succ21 (by omega)), Le.lc (Cl.sl (ClL.rows _)), Le.refl _ _, Le.refl _ _, Le.lc (Cl.stpsV _), Le.refl _ _, trivial⟩ ⟨⟨_, rfl, LeO.refl _ _⟩, ⟨_, rfl, LeO.lc (ClO.fE _)⟩, ⟨_, rfl, LeO.refl _ _⟩, ⟨_, rfl, LeO.refl _ _⟩, ⟨_, rfl, LeO.refl _ _⟩, ⟨_, rfl, LeO.lc (ClO.fil _)⟩, trivial⟩⟩
              · have hd : dnR rows x.kind x.name x.parts = (rows, 2) := by unfold dnR; rw [hk, if_pos rfl, if_neg (by rw [ho]; decide), if_neg (by rw [hn]; simp), if_pos (by omega)]
                refine callG2 [0, 6, 2, 7, 8, 9] (.int .i64 2) [(9, tbO 2 8), (8, .map (fE m)), (2, dkO 0 6 1073741824 lf op), (6, .map [(.str tN, .ptr 7 0)]), (0, .map [(.str tN, .ptr 7 0)]), (7, .cells [bs (encR rows), .int .i64 (encR rows).length])] (createBad (l := rows) (m := m) (fs := (some (encR rows))) (room := 1073741824) (lf := lf) (op := op) (k := x.name) (v := x.parts) rel (by omega) ho hn (by omega)) rfl ⟨⟨by simp, rfl⟩, ⟨by simp, by rw [ClO.fE]; rfl⟩, ⟨by simp, rfl⟩, ⟨by simp, rfl⟩, ⟨by simp, rfl⟩, ⟨by simp, by rw [ClO.fil]; rfl⟩, trivial⟩ rfl (Le.refl _ _) ⟨⟨_, rfl, LeO.refl _ _⟩, ⟨_, rfl, LeO.cl (ClO.fE _)⟩, ⟨_, rfl, LeO.refl _ _⟩, ⟨_, rfl, LeO.refl _ _⟩, ⟨_, rfl, LeO.refl _ _⟩, ⟨_, rfl, LeO.cl (ClO.fil _)⟩, trivial⟩ ?_
                (conv => arg 4; whnf); repeat (refine ⟨rfl, ?_⟩; conv => arg 4; whnf)
                refine ret_in ?_
                show holds _ _ _ _
                conv => arg 4; whnf
                refine nth_in x.av ⟨by omega, stps_get hx⟩ ?_
                (conv => arg 4; whnf); repeat (refine ⟨rfl, ?_⟩; conv => arg 4; whnf)
                have cd := tDone (kd := x.kind) (v := x.parts) (k := x.name) rel.srt (by omega) (by omega)
                rw [hd] at cd
                dsimp only at cd
                refine call0 cd (ClL.cons (Cl.sl (ClL.rows rows)) (ClL.cons (Cl.stp x) ClL.nil)) (Cl.tup (ClL.cons (Cl.sl (ClL.rows _)) (ClL.cons (Cl.int _ _) ClL.nil))) ?_
                (conv => arg 4; whnf); repeat (refine ⟨rfl, ?_⟩; conv => arg 4; whnf)
                refine br_no (by decide) ?_
                (conv => arg 4; whnf); repeat (refine ⟨rfl, ?_⟩; conv => arg 4; whnf)
                refine callG2 [0, 6, 2, 7, 8, 9] (.bool true) [(9, tbO 2 8), (8, .map (fE m)), (2, dkO 0 6 1073741824 lf op), (6, .map [(.str tN, .ptr 7 0)]), (0, .map [(.str tN, .ptr 7 0)]), (7, .cells [bs (encR rows), .int .i64 (encR rows).length])] (tShows rel (by omega)) rfl ⟨⟨by simp, rfl⟩, ⟨by simp, by rw [ClO.fE]; rfl⟩, trivial⟩ (by simp only [renL, ren]; rw [ClL.rows]; rfl) (Le.refl _ _) ⟨⟨_, rfl, LeO.refl _ _⟩, ⟨_, rfl, LeO.cl (ClO.fE _)⟩, ⟨_, rfl, LeO.refl _ _⟩, ⟨_, rfl, LeO.refl _ _⟩, ⟨_, rfl, LeO.refl _ _⟩, ⟨_, rfl, LeO.refl _ _⟩, trivial⟩ ?_
                (conv => arg 4; whnf); repeat (refine ⟨rfl, ?_⟩; conv => arg 4; whnf)
                refine br_no (by decide) ?_
                (conv => arg 4; whnf); repeat (refine ⟨rfl, ?_⟩; conv => arg 4; whnf)
                exact ⟨⟨i + 1, true, rows, m, lf, op, hlt, rel, good, len, (fun h => by cases h)⟩, by show l.length - (i + 1) < l.length - i; omega, WkG.alias [0, 1, 2, 3, 4, 5, 6, 7, 8, 9] rfl rfl rfl ⟨Le.of_eq (succ21 (by omega)), Le.lc (Cl.sl (ClL.rows _)), Le.refl _ _, Le.refl _ _, Le.lc (Cl.stpsV _), Le.refl _ _, trivial⟩ ⟨⟨_, rfl, LeO.refl _ _⟩, ⟨_, rfl, LeO.lc (ClO.fE _)⟩, ⟨_, rfl, LeO.refl _ _⟩, ⟨_, rfl, LeO.refl _ _⟩, ⟨_, rfl, LeO.refl _ _⟩, ⟨_, rfl, LeO.lc (ClO.fil _)⟩, trivial⟩⟩
            · have hd : dnR rows x.kind x.name x.parts = (rows, 6) := by unfold dnR; rw [hk, if_pos rfl, if_neg (by rw [ho]; decide), if_pos hn]
              refine callG2 [0, 6, 2, 7, 8, 9] (.int .i64 6) [(9, tbO 2 8), (8, .map (fE m)), (2, dkO 0 6 1073741824 lf op), (6, .map [(.str tN, .ptr 7 0)]), (0, .map [(.str tN, .ptr 7 0)]), (7, .cells [bs (encR rows), .int .i64 (encR rows).length])] (createThere (l := rows) (m := m) (fs := (some (encR rows))) (room := 1073741824) (lf := lf) (op := op) (k := x.name) (v := x.parts) rel (by omega) ho hn) rfl ⟨⟨by simp, rfl⟩, ⟨by simp, by rw [ClO.fE]; rfl⟩, ⟨by simp, rfl⟩, ⟨by simp, rfl⟩, ⟨by simp, rfl⟩, ⟨by simp, by rw [ClO.fil]; rfl⟩, trivial⟩ rfl (Le.refl _ _) ⟨⟨_, rfl, LeO.refl _ _⟩, ⟨_, rfl, LeO.cl (ClO.fE _)⟩, ⟨_, rfl, LeO.refl _ _⟩, ⟨_, rfl, LeO.refl _ _⟩, ⟨_, rfl, LeO.refl _ _⟩, ⟨_, rfl, LeO.cl (ClO.fil _)⟩, trivial⟩ ?_
              (conv => arg 4; whnf); repeat (refine ⟨rfl, ?_⟩; conv => arg 4; whnf)
              refine ret_in ?_
              show holds _ _ _ _
              conv => arg 4; whnf
              refine nth_in x.av ⟨by omega, stps_get hx⟩ ?_
              (conv => arg 4; whnf); repeat (refine ⟨rfl, ?_⟩; conv => arg 4; whnf)
              have cd := tDone (kd := x.kind) (v := x.parts) (k := x.name) rel.srt (by omega) (by omega)
              rw [hd] at cd
              dsimp only at cd
              refine call0 cd (ClL.cons (Cl.sl (ClL.rows rows)) (ClL.cons (Cl.stp x) ClL.nil)) (Cl.tup (ClL.cons (Cl.sl (ClL.rows _)) (ClL.cons (Cl.int _ _) ClL.nil))) ?_
              (conv => arg 4; whnf); repeat (refine ⟨rfl, ?_⟩; conv => arg 4; whnf)
              refine br_no (by decide) ?_
              (conv => arg 4; whnf); repeat (refine ⟨rfl, ?_⟩; conv => arg 4; whnf)
              refine callG2 [0, 6, 2, 7, 8, 9] (.bool true) [(9, tbO 2 8), (8, .map (fE m)), (2, dkO 0 6 1073741824 lf op), (6, .map [(.str tN, .ptr 7 0)]), (0, .map [(.str tN, .ptr 7 0)]), (7, .cells [bs (encR rows), .int .i64 (encR rows).length])] (tShows rel (by omega)) rfl ⟨⟨by simp, rfl⟩, ⟨by simp, by rw [ClO.fE]; rfl⟩, trivial⟩ (by simp only [renL, ren]; rw [ClL.rows]; rfl) (Le.refl _ _) ⟨⟨_, rfl, LeO.refl _ _⟩, ⟨_, rfl, LeO.cl (ClO.fE _)⟩, ⟨_, rfl, LeO.refl _ _⟩, ⟨_, rfl, LeO.refl _ _⟩, ⟨_, rfl, LeO.refl _ _⟩, ⟨_, rfl, LeO.refl _ _⟩, trivial⟩ ?_
              (conv => arg 4; whnf); repeat (refine ⟨rfl, ?_⟩; conv => arg 4; whnf)
              refine br_no (by decide) ?_
              (conv => arg 4; whnf); repeat (refine ⟨rfl, ?_⟩; conv => arg 4; whnf)
              exact ⟨⟨i + 1, true, rows, m, lf, op, hlt, rel, good, len, (fun h => by cases h)⟩, by show l.length - (i + 1) < l.length - i; omega, WkG.alias [0, 1, 2, 3, 4, 5, 6, 7, 8, 9] rfl rfl rfl ⟨Le.of_eq (succ21 (by omega)), Le.lc (Cl.sl (ClL.rows _)), Le.refl _ _, Le.refl _ _, Le.lc (Cl.stpsV _), Le.refl _ _, trivial⟩ ⟨⟨_, rfl, LeO.refl _ _⟩, ⟨_, rfl, LeO.lc (ClO.fE _)⟩, ⟨_, rfl, LeO.refl _ _⟩, ⟨_, rfl, LeO.refl _ _⟩, ⟨_, rfl, LeO.refl _ _⟩, ⟨_, rfl, LeO.lc (ClO.fil _)⟩, trivial⟩⟩
          · have hk1 : x.kind ≠ 1 := by simpa using hk
            (conv => arg 4; whnf); repeat (refine ⟨rfl, ?_⟩; conv => arg 4; whnf)
            refine br_in (fun hk => ?_) (fun hk => ?_)
            · have hk : x.kind = 2 := by simpa using hk
              (conv => arg 4; whnf); repeat (refine ⟨rfl, ?_⟩; conv => arg 4; whnf)
              by_cases hn : findM rows x.name = none
              · have hd : dnR rows x.kind x.name x.parts = (rows, 5) := by unfold dnR; rw [if_neg hk1, if_pos hk, if_pos hn]
                refine callG2 [0, 6, 2, 7, 8, 9] (.int .i64 5) [(9, tbO 2 8), (8, .map (fE m)), (2, dkO 0 6 1073741824 lf op), (6, .map [(.str tN, .ptr 7 0)]), (0, .map [(.str tN, .ptr 7 0)]), (7, .cells [bs (encR rows), .int .i64 (encR rows).length])] (deleteNone (l := rows) (m := m) (fs := (some (encR rows))) (room := 1073741824) (lf := lf) (op := op) (k := x.name) (v := 0) rel hn) rfl ⟨⟨by simp, rfl⟩, ⟨by simp, by rw [ClO.fE]; rfl⟩, ⟨by simp, rfl⟩, ⟨by simp, rfl⟩, ⟨by simp, rfl⟩, ⟨by simp, by rw [ClO.fil]; rfl⟩, trivial⟩ rfl (Le.refl _ _) ⟨⟨_, rfl, LeO.refl _ _⟩, ⟨_, rfl, LeO.cl (ClO.fE _)⟩, ⟨_, rfl, LeO.refl _ _⟩, ⟨_, rfl, LeO.refl _ _⟩, ⟨_, rfl, LeO.refl _ _⟩, ⟨_, rfl, LeO.cl (ClO.fil _)⟩, trivial⟩ ?_
                (conv => arg 4; whnf); repeat (refine ⟨rfl, ?_⟩; conv => arg 4; whnf)
                refine ret_in ?_
                show holds _ _ _ _
                conv => arg 4; whnf
                refine nth_in x.av ⟨by omega, stps_get hx⟩ ?_
                (conv => arg 4; whnf); repeat (refine ⟨rfl, ?_⟩; conv => arg 4; whnf)
                have cd := tDone (kd := x.kind) (v := x.parts) (k := x.name) rel.srt (by omega) (by omega)
                rw [hd] at cd
                dsimp only at cd
                refine call0 cd (ClL.cons (Cl.sl (ClL.rows rows)) (ClL.cons (Cl.stp x) ClL.nil)) (Cl.tup (ClL.cons (Cl.sl (ClL.rows _)) (ClL.cons (Cl.int _ _) ClL.nil))) ?_
                (conv => arg 4; whnf); repeat (refine ⟨rfl, ?_⟩; conv => arg 4; whnf)
                refine br_no (by decide) ?_
                (conv => arg 4; whnf); repeat (refine ⟨rfl, ?_⟩; conv => arg 4; whnf)
                refine callG2 [0, 6, 2, 7, 8, 9] (.bool true) [(9, tbO 2 8), (8, .map (fE m)), (2, dkO 0 6 1073741824 lf op), (6, .map [(.str tN, .ptr 7 0)]), (0, .map [(.str tN, .ptr 7 0)]), (7, .cells [bs (encR rows), .int .i64 (encR rows).length])] (tShows rel (by omega)) rfl ⟨⟨by simp, rfl⟩, ⟨by simp, by rw [ClO.fE]; rfl⟩, trivial⟩ (by simp only [renL, ren]; rw [ClL.rows]; rfl) (Le.refl _ _) ⟨⟨_, rfl, LeO.refl _ _⟩, ⟨_, rfl, LeO.cl (ClO.fE _)⟩, ⟨_, rfl, LeO.refl _ _⟩, ⟨_, rfl, LeO.refl _ _⟩, ⟨_, rfl, LeO.refl _ _⟩, ⟨_, rfl, LeO.refl _ _⟩, trivial⟩ ?_
                (conv => arg 4; whnf); repeat (refine ⟨rfl, ?_⟩; conv => arg 4; whnf)
                refine br_no (by decide) ?_
                (conv => arg 4; whnf); repeat (refine ⟨rfl, ?_⟩; conv => arg 4; whnf)
                exact ⟨⟨i + 1, true, rows, m, lf, op, hlt, rel, good, len, (fun h => by cases h)⟩, by show l.length - (i + 1) < l.length - i; omega, WkG.alias [0, 1, 2, 3, 4, 5, 6, 7, 8, 9] rfl rfl rfl ⟨Le.of_eq (succ21 (by omega)), Le.lc (Cl.sl (ClL.rows _)), Le.refl _ _, Le.refl _ _, Le.lc (Cl.stpsV _), Le.refl _ _, trivial⟩ ⟨⟨_, rfl, LeO.refl _ _⟩, ⟨_, rfl, LeO.lc (ClO.fE _)⟩, ⟨_, rfl, LeO.refl _ _⟩, ⟨_, rfl, LeO.refl _ _⟩, ⟨_, rfl, LeO.refl _ _⟩, ⟨_, rfl, LeO.lc (ClO.fil _)⟩, trivial⟩⟩
              · have hd : dnR rows x.kind x.name x.parts = (remR x.name rows, 0) := by unfold dnR; rw [if_neg hk1, if_pos hk, if_neg hn]
                refine callGE2 [0, 6, 2, 7, 8, 9] (fun _ => .int .i64 0) (fun y => [(9, tbO 2 11), (11, .map (fE (delM m x.name))), (2, dkO 0 13 1073741824 y.lf y.op), (0, .map [(.str tN, .ptr 12 0)]), (13, .map [(.str tN, .ptr 12 0)]), (12, .cells [bs (encR (remR x.name rows)), .int .i64 (encR (remR x.name rows)).length])]) (deleteOk (l := rows) (m := m) (fs := (some (encR rows))) (room := 1073741824) (lf := lf) (op := op) (k := x.name) rel good len hn (fun b hb => by cases hb; exact Nat.le_trans (encR_len good.fine (by omega)) (by decide)) (by decide)) rfl ⟨⟨by simp, rfl⟩, ⟨by simp, by rw [ClO.fE]; rfl⟩, ⟨by simp, rfl⟩, ⟨by simp, rfl⟩, ⟨by simp, rfl⟩, ⟨by simp, by rw [ClO.fil]; rfl⟩, trivial⟩ rfl (fun _ _ => Le.refl _ _) (fun _ _ => ⟨⟨_, rfl, LeO.refl _ _⟩, ⟨_, rfl, LeO.cl (ClO.fE _)⟩, ⟨_, rfl, LeO.refl _ _⟩, ⟨_, rfl, LeO.refl _ _⟩, ⟨_, rfl, LeO.refl _ _⟩, ⟨_, rfl, LeO.cl (ClO.fil _)⟩, trivial⟩) fun y _ => ?_
                (conv => arg 4; whnf); repeat (refine ⟨rfl, ?_⟩; conv => arg 4; whnf)
                refine ret_in ?_
                show holds _ _ _ _
                conv => arg 4; whnf
                refine nth_in x.av ⟨by omega, stps_get hx⟩ ?_
                (conv => arg 4; whnf); repeat (refine ⟨rfl, ?_⟩; conv => arg 4; whnf)
                have cd := tDone (kd := x.kind) (v := x.parts) (k := x.name) rel.srt (by omega) (by omega)
                rw [hd] at cd
                dsimp only at cd
                refine call0 cd (ClL.cons (Cl.sl (ClL.rows rows)) (ClL.cons (Cl.stp x) ClL.nil)) (Cl.tup (ClL.cons (Cl.sl (ClL.rows _)) (ClL.cons (Cl.int _ _) ClL.nil))) ?_
                (conv => arg 4; whnf); repeat (refine ⟨rfl, ?_⟩; conv => arg 4; whnf)
                refine br_no (by decide) ?_
                (conv => arg 4; whnf); repeat (refine ⟨rfl, ?_⟩; conv => arg 4; whnf)
                refine callG2 [0, 13, 2, 12, 11, 9] (.bool true) [(9, tbO 2 11), (11, .map (fE (delM m x.name))), (2, dkO 0 13 1073741824 y.lf y.op), (0, .map [(.str tN, .ptr 12 0)]), (13, .map [(.str tN, .ptr 12 0)]), (12, .cells [bs (encR (remR x.name rows)), .int .i64 (encR (remR x.name rows)).length])] (tShows (rel.rem hn) (by have := (Nat.le_trans (rem_len x.name rows) len); omega)) rfl ⟨⟨by simp, rfl⟩, ⟨by simp, by rw [ClO.fE]; rfl⟩, trivial⟩ (by simp only [renL, ren]; rw [ClL.rows]; rfl) (Le.refl _ _) ⟨⟨_, rfl, LeO.refl _ _⟩, ⟨_, rfl, LeO.cl (ClO.fE _)⟩, ⟨_, rfl, LeO.refl _ _⟩, ⟨_, rfl, LeO.refl _ _⟩, ⟨_, rfl, LeO.refl _ _⟩, ⟨_, rfl, LeO.refl _ _⟩, trivial⟩ ?_
                (conv => arg 4; whnf); repeat (refine ⟨rfl, ?_⟩; conv => arg 4; whnf)
                refine br_no (by decide) ?_
                (conv => arg 4; whnf); repeat (refine ⟨rfl, ?_⟩; conv => arg 4; whnf)
                exact ⟨⟨i + 1, true, (remR x.name rows), (delM m x.name), y.lf, y.op, hlt, (rel.rem hn), (rem_good good), (Nat.le_trans (rem_len x.name rows) len), (fun h => by cases h)⟩, by show l.length - (i + 1) < l.length - i; omega, WkG.alias [0, 1, 2, 3, 4, 5, 13, 12, 11, 9] rfl rfl rfl ⟨Le.of_eq (succ21 (by omega)), Le.lc (Cl.sl (ClL.rows _)), Le.refl _ _, Le.refl _ _, Le.lc (Cl.stpsV _), Le.refl _ _, trivial⟩ ⟨⟨_, rfl, LeO.refl _ _⟩, ⟨_, rfl, LeO.lc (ClO.fE _)⟩, ⟨_, rfl, LeO.refl _ _⟩, ⟨_, rfl, LeO.refl _ _⟩, ⟨_, rfl, LeO.refl _ _⟩, ⟨_, rfl, LeO.lc (ClO.fil _)⟩, trivial⟩⟩
            · have hk2 : x.kind ≠ 2 := by simpa using hk
              have hd : dnR rows x.kind x.name x.parts = (rows, 0) := by unfold dnR; rw [if_neg hk1, if_neg hk2]
              (conv => arg 4; whnf); repeat (refine ⟨rfl, ?_⟩; conv => arg 4; whnf)
              refine ret_in ?_
              show holds _ _ _ _
              conv => arg 4; whnf
              refine nth_in x.av ⟨by omega, stps_get hx⟩ ?_
              (conv => arg 4; whnf); repeat (refine ⟨rfl, ?_⟩; conv => arg 4; whnf)
              have cd := tDone (kd := x.kind) (v := x.parts) (k := x.name) rel.srt (by omega) (by omega)
              rw [hd] at cd
              dsimp only at cd
              refine call0 cd (ClL.cons (Cl.sl (ClL.rows rows)) (ClL.cons (Cl.stp x) ClL.nil)) (Cl.tup (ClL.cons (Cl.sl (ClL.rows _)) (ClL.cons (Cl.int _ _) ClL.nil))) ?_
              (conv => arg 4; whnf); repeat (refine ⟨rfl, ?_⟩; conv => arg 4; whnf)
              refine br_no (by decide) ?_
              (conv => arg 4; whnf); repeat (refine ⟨rfl, ?_⟩; conv => arg 4; whnf)
              refine callG2 [0, 6, 2, 7, 8, 9] (.bool true) [(9, tbO 2 8), (8, .map (fE m)), (2, dkO 0 6 1073741824 lf op), (6, .map [(.str tN, .ptr 7 0)]), (0, .map [(.str tN, .ptr 7 0)]), (7, .cells [bs (encR rows), .int .i64 (encR rows).length])] (tShows rel (by omega)) rfl ⟨⟨by simp, rfl⟩, ⟨by simp, by rw [ClO.fE]; rfl⟩, trivial⟩ (by simp only [renL, ren]; rw [ClL.rows]; rfl) (Le.refl _ _) ⟨⟨_, rfl, LeO.refl _ _⟩, ⟨_, rfl, LeO.cl (ClO.fE _)⟩, ⟨_, rfl, LeO.refl _ _⟩, ⟨_, rfl, LeO.refl _ _⟩, ⟨_, rfl, LeO.refl _ _⟩, ⟨_, rfl, LeO.refl _ _⟩, trivial⟩ ?_
              (conv => arg 4; whnf); repeat (refine ⟨rfl, ?_⟩; conv => arg 4; whnf)
              refine br_no (by decide) ?_
              (conv => arg 4; whnf); repeat (refine ⟨rfl, ?_⟩; conv => arg 4; whnf)
              exact ⟨⟨i + 1, true, rows, m, lf, op, hlt, rel, good, len, (fun h => by cases h)⟩, by show l.length - (i + 1) < l.length - i; omega, WkG.alias [0, 1, 2, 3, 4, 5, 6, 7, 8, 9] rfl rfl rfl ⟨Le.of_eq (succ21 (by omega)), Le.lc (Cl.sl (ClL.rows _)), Le.refl _ _, Le.refl _ _, Le.lc (Cl.stpsV _), Le.refl _ _, trivial⟩ ⟨⟨_, rfl, LeO.refl _ _⟩, ⟨_, rfl, LeO.lc (ClO.fE _)⟩, ⟨_, rfl, LeO.refl _ _⟩, ⟨_, rfl, LeO.refl _ _⟩, ⟨_, rfl, LeO.refl _ _⟩, ⟨_, rfl, LeO.lc (ClO.fil _)⟩, trivial⟩⟩
      · have hlt : i = l.length := by rw [stps_length] at hlt; simp at hlt; omega
        (conv => arg 4; whnf); repeat (refine ⟨rfl, ?_⟩; conv => arg 4; whnf)
        refine fin_exit ?_
        show holds _ _ _ _
        conv => arg 4; whnf
        refine callG2 [0, 6, 2, 7, 8, 9] (.tup [.int .i64 ((findM rows look).getD 0), .bool (findM rows look).isSome]) [(9, tbO 2 8), (8, .map (fE m)), (2, dkO 0 6 1073741824 lf op), (6, .map [(.str tN, .ptr 7 0)]), (0, .map [(.str tN, .ptr 7 0)]), (7, .cells [bs (encR rows), .int .i64 (encR rows).length])] (partsOf (l := rows) (m := m) (fs := (some (encR rows))) (room := 1073741824) (lf := lf) (op := op) (k := look) (v := 0) rel) rfl ⟨⟨by simp, rfl⟩, ⟨by simp, by rw [ClO.fE]; rfl⟩, ⟨by simp, rfl⟩, ⟨by simp, rfl⟩, ⟨by simp, rfl⟩, ⟨by simp, by rw [ClO.fil]; rfl⟩, trivial⟩ rfl (Le.refl _ _) ⟨⟨_, rfl, LeO.refl _ _⟩, ⟨_, rfl, LeO.cl (ClO.fE _)⟩, ⟨_, rfl, LeO.refl _ _⟩, ⟨_, rfl, LeO.refl _ _⟩, ⟨_, rfl, LeO.refl _ _⟩, ⟨_, rfl, LeO.cl (ClO.fil _)⟩, trivial⟩ ?_
        (conv => arg 4; whnf); repeat (refine ⟨rfl, ?_⟩; conv => arg 4; whnf)
        refine call0 (tFind (l := rows) (k := look) rel.srt (by omega)) (ClL.cons (Cl.sl (ClL.rows rows)) (ClL.cons (Cl.str _) ClL.nil)) (by (repeat' (first | with_reducible assumption | exact ClL.nil | exact Cl.int _ _ | exact Cl.bool _ | exact Cl.bl _ | exact Cl.bs _ | exact Cl.str _ | exact Cl.nils | exact Cl.nilp | exact Cl.rec _ | exact Cl.bat _ | exact Cl.recsV _ | exact Cl.strsV _ | exact Cl.intsV _ | exact Cl.req _ | exact Cl.rsp _ | exact Cl.reqA _ | exact Cl.rspA _ | exact Cl.batsV _ | exact Cl.prsV _ | exact Cl.atsV _ | exact Cl.entA _ _ | exact Cl.ent _ | exact Cl.rr _ _ | exact Cl.foundA _ | exact Cl.getB _ | exact Cl.encA _ | exact Cl.firstA _ | refine ClL.cons ?_ ?_ | refine Cl.tup ?_ | refine Cl.agg ?_ | exact ClO.RO _ _))) ?_
        (conv => arg 4; whnf); repeat (refine ⟨rfl, ?_⟩; conv => arg 4; whnf)
        refine br_yes (by simp) ?_
        (conv => arg 4; whnf); repeat (refine ⟨rfl, ?_⟩; conv => arg 4; whnf)
        refine callG2 [0, 6, 2, 7, 8, 9] (.bl false) [(9, tbO 2 8), (8, .map (fE m)), (2, dkO 0 6 1073741824 lf op), (6, .map [(.str tN, .ptr 7 0)]), (0, .map [(.str tN, .ptr 7 0)]), (7, .cells [bs (encR rows), .int .i64 (encR rows).length])] (deadNo (l := rows) (m := m) (fs := (some (encR rows))) (room := 1073741824) (lf := lf) (op := op) (k := []) (v := 0)) rfl ⟨⟨by simp, rfl⟩, ⟨by simp, by rw [ClO.fE]; rfl⟩, ⟨by simp, rfl⟩, ⟨by simp, rfl⟩, ⟨by simp, rfl⟩, ⟨by simp, by rw [ClO.fil]; rfl⟩, trivial⟩ rfl (Le.refl _ _) ⟨⟨_, rfl, LeO.refl _ _⟩, ⟨_, rfl, LeO.cl (ClO.fE _)⟩, ⟨_, rfl, LeO.refl _ _⟩, ⟨_, rfl, LeO.refl _ _⟩, ⟨_, rfl, LeO.refl _ _⟩, ⟨_, rfl, LeO.cl (ClO.fil _)⟩, trivial⟩ ?_
        (conv => arg 4; whnf); repeat (refine ⟨rfl, ?_⟩; conv => arg 4; whnf)
        refine call0 awake21 (by (repeat' (first | with_reducible assumption | exact ClL.nil | exact Cl.int _ _ | exact Cl.bool _ | exact Cl.bl _ | exact Cl.bs _ | exact Cl.str _ | exact Cl.nils | exact Cl.nilp | exact Cl.rec _ | exact Cl.bat _ | exact Cl.recsV _ | exact Cl.strsV _ | exact Cl.intsV _ | exact Cl.req _ | exact Cl.rsp _ | exact Cl.reqA _ | exact Cl.rspA _ | exact Cl.batsV _ | exact Cl.prsV _ | exact Cl.atsV _ | exact Cl.entA _ _ | exact Cl.ent _ | exact Cl.rr _ _ | exact Cl.foundA _ | exact Cl.getB _ | exact Cl.encA _ | exact Cl.firstA _ | refine ClL.cons ?_ ?_ | refine Cl.tup ?_ | refine Cl.agg ?_ | exact ClO.RO _ _))) (by (repeat' (first | with_reducible assumption | exact ClL.nil | exact Cl.int _ _ | exact Cl.bool _ | exact Cl.bl _ | exact Cl.bs _ | exact Cl.str _ | exact Cl.nils | exact Cl.nilp | exact Cl.rec _ | exact Cl.bat _ | exact Cl.recsV _ | exact Cl.strsV _ | exact Cl.intsV _ | exact Cl.req _ | exact Cl.rsp _ | exact Cl.reqA _ | exact Cl.rspA _ | exact Cl.batsV _ | exact Cl.prsV _ | exact Cl.atsV _ | exact Cl.entA _ _ | exact Cl.ent _ | exact Cl.rr _ _ | exact Cl.foundA _ | exact Cl.getB _ | exact Cl.encA _ | exact Cl.firstA _ | refine ClL.cons ?_ ?_ | refine Cl.tup ?_ | refine Cl.agg ?_ | exact ClO.RO _ _))) ?_
        (conv => arg 4; whnf); repeat (refine ⟨rfl, ?_⟩; conv => arg 4; whnf)
        exact .inl rfl
end Go.Proofs.Ytlcanameloklbaa.Tp

namespace Go.Proofs.Ytlcanameloklbaa.Tp
set_option maxRecDepth 100000
set_option maxHeartbeats 80000000
open Go.Sym

def dig (n : Nat) : List UInt8 := if n < 10 then [UInt8.ofNat (48 + n)] else [UInt8.ofNat (48 + n / 10), UInt8.ofNat (48 + n % 10)]
structure DcI (n : Nat) where
  u : Nat
  b : List UInt8
  h : (u = n ∧ b = []) ∨ (u = n / 10 ∧ b = [UInt8.ofNat (48 + n % 10)]) ∨ (u = 0 ∧ b = dig n)
theorem u64n {n : Nat} (h : n < 1000) : AV.int .u64 (IntKind.u64.wrap (n : Int)) = AV.int .u64 (n : Int) := by
  have : IntKind.u64.wrap (n : Int) = (n : Int) := by rw [IntKind.wrap_u64]; omega
  rw [this]
theorem dc_step {n u : Nat} {b : List UInt8} (hn : n < 100) (h : (u = n ∧ b = []) ∨ (u = n / 10 ∧ b = [UInt8.ofNat (48 + n % 10)]) ∨ (u = 0 ∧ b = dig n)) (hc : 0 < u ∨ b = []) :
    (u / 10 = n ∧ UInt8.ofNat (48 + u % 10) :: b = []) ∨ (u / 10 = n / 10 ∧ UInt8.ofNat (48 + u % 10) :: b = [UInt8.ofNat (48 + n % 10)]) ∨ (u / 10 = 0 ∧ UInt8.ofNat (48 + u % 10) :: b = dig n) := by
  rcases h with ⟨rfl, rfl⟩ | ⟨rfl, rfl⟩ | ⟨rfl, rfl⟩
  · exact .inr (.inl ⟨rfl, rfl⟩)
  · have h10 : 10 ≤ n := by
      rcases hc with h | h
      · omega
      · cases h
    refine .inr (.inr ⟨by omega, ?_⟩)
    unfold dig
    rw [if_neg (by omega), show n / 10 % 10 = n / 10 by omega]
  · rcases hc with h | h
    · omega
    · unfold dig at h; split at h <;> cases h
theorem dc_end {n u : Nat} {b : List UInt8} (h : (u = n ∧ b = []) ∨ (u = n / 10 ∧ b = [UInt8.ofNat (48 + n % 10)]) ∨ (u = 0 ∧ b = dig n)) (hc : u = 0 ∧ b ≠ []) : b = dig n := by
  rcases h with ⟨_, rfl⟩ | ⟨h1, rfl⟩ | ⟨_, rfl⟩
  · exact absurd rfl hc.2
  · unfold dig
    rw [if_pos (by omega), show n % 10 = n by omega]
  · rfl
theorem dc_len {n u : Nat} {b : List UInt8} (h : (u = n ∧ b = []) ∨ (u = n / 10 ∧ b = [UInt8.ofNat (48 + n % 10)]) ∨ (u = 0 ∧ b = dig n)) : b.length ≤ 2 := by
  rcases h with ⟨_, rfl⟩ | ⟨h1, rfl⟩ | ⟨_, rfl⟩
  · simp
  · simp
  · unfold dig; split <;> simp
theorem u8n (u : Nat) : AV.int .u8 (IntKind.u8.wrap (IntKind.u64.wrap (48 + (u : Int).tmod 10))) = u8 (UInt8.ofNat (48 + u % 10)) := by
  have e0 : (u : Int).tmod 10 = ((u % 10 : Nat) : Int) := by rw [Int.tmod_eq_emod_of_nonneg (by omega)]; omega
  have e : IntKind.u8.wrap (IntKind.u64.wrap (48 + (u : Int).tmod 10)) = ((48 + u % 10 : Nat) : Int) := by rw [e0, IntKind.wrap_u64, IntKind.wrap_u8]; omega
  rw [e]
  unfold u8
  rw [UInt8.toNat_ofNat', show (48 + u % 10) % 2 ^ 8 = 48 + u % 10 by omega]
theorem udiv {u : Nat} (h : u < 1000) : AV.int .u64 (IntKind.u64.wrap ((u : Int).tdiv 10)) = AV.int .u64 ((u / 10 : Nat) : Int) := by
  have e : IntKind.u64.wrap ((u : Int).tdiv 10) = ((u / 10 : Nat) : Int) := by rw [Int.tdiv_eq_ediv_of_nonneg (by omega), IntKind.wrap_u64]; omega
  rw [e]
theorem tDec {n : Nat} (h : n < 100) : CallOK Try.prog 44 [.int .i64 n] [] 0 (Out (.str (dig n)) [] 0) := by
  refine CallOK.fit (by decide) ?_
  refine callOK Try.call44 Try.func44 Try.ntmps44 rfl ?_
  (conv => arg 4; whnf); repeat (refine ⟨rfl, ?_⟩; conv => arg 4; whnf)
  refine br_no (by simp) ?_
  (conv => arg 4; whnf); repeat (refine ⟨rfl, ?_⟩; conv => arg 4; whnf)
  refine tri_loopG (ι := DcI n) (fun x => ⟨[(5, bs x.b), (4, .str []), (3, .int .u64 x.u)], [], 0, 32⟩) (fun x => 3 - x.b.length) ⟨n, [], .inl ⟨rfl, rfl⟩⟩ (WkG.of rfl rfl ⟨Le.nils, Le.of_eq rfl, Le.of_eq (u64n (by omega)), trivial⟩ trivial ⟨Cl.bs _ _, rfl, rfl, trivial⟩ trivial) ?_
  rintro ⟨u, b, hub⟩
  dsimp only
  (conv => arg 4; whnf); repeat (refine ⟨rfl, ?_⟩; conv => arg 4; whnf)
  refine br_in (fun hc => ?_) (fun hc => ?_)
  · have hc : 0 < u ∨ b = [] := by
      by_cases hu : 0 < u
      · exact .inl hu
      · have : b.length = 0 := by simpa [hu, u8s_length] using hc
        exact .inr (List.eq_nil_of_length_eq_zero this)
    have h2 := dc_step h hub hc
    have hl2 := dc_len h2
    (conv => arg 4; whnf); repeat (refine ⟨rfl, ?_⟩; conv => arg 4; whnf)
    refine need_in (by decide) ?_
    (conv => arg 4; whnf); repeat (refine ⟨rfl, ?_⟩; conv => arg 4; whnf)
    rw [u8n]
    refine need_in (sizeOk 1 rfl (by simp only [List.length_append, u8s_length, List.length_cons, List.length_nil] at hl2 ⊢; omega)) ?_
    (conv => arg 4; whnf); repeat (refine ⟨rfl, ?_⟩; conv => arg 4; whnf)
    refine need_in (by decide) ?_
    (conv => arg 4; whnf); repeat (refine ⟨rfl, ?_⟩; conv => arg 4; whnf)
    have hu : u < 1000 := by rcases hub with ⟨e, _⟩ | ⟨e, _⟩ | ⟨e, _⟩ <;> omega
    refine ⟨⟨u / 10, UInt8.ofNat (48 + u % 10) :: b, h2⟩, by show 3 - (b.length + 1) < 3 - b.length; rw [List.length_cons] at hl2; omega, WkG.of rfl rfl ⟨Le.noneOf rfl, Le.refl _ _, Le.of_eq (udiv hu), trivial⟩ trivial ⟨Cl.bs _ _, rfl, rfl, trivial⟩ trivial⟩
  · have hc : u = 0 ∧ b ≠ [] := by
      by_cases hu : 0 < u
      · simp [hu] at hc
      · refine ⟨by omega, fun e => ?_⟩
        subst e; simp [hu, u8s] at hc
    obtain rfl := dc_end hub hc
    have hl := dc_len hub
    (conv => arg 4; whnf); repeat (refine ⟨rfl, ?_⟩; conv => arg 4; whnf)
    refine fin_exit ?_
    show holds _ _ _ _
    conv => arg 4; whnf
    refine ⟨_, rfl, ?_⟩
    (conv => arg 4; whnf); repeat (refine ⟨rfl, ?_⟩; conv => arg 4; whnf)
    refine need_in (by simp only [List.length_nil]; show _ ≤ (9223372036854775807 : Int); omega) ?_
    (conv => arg 4; whnf); repeat (refine ⟨rfl, ?_⟩; conv => arg 4; whnf)
    exact ⟨by decide, Le.refl _ _, trivial, (Cl.str _) _, trivial⟩
end Go.Proofs.Ytlcanameloklbaa.Tp

namespace Go.Proofs.Ytlcanameloklbaa.Tp
set_option maxRecDepth 100000
set_option maxHeartbeats 80000000
open Go.Sym

def tn (i : Nat) : List UInt8 := [116] ++ dig i
def vn (i : Nat) : Int := ((1 + i % 20 : Nat) : Int)
def rF : Nat → List Rw
  | 0 => []
  | i + 1 => insR (tn i) (vn i) (rF i)
def mF : Nat → List Rw
  | 0 => []
  | i + 1 => setM (mF i) (tn i) (vn i)
theorem tn_ne : ∀ i, i < 26 → ∀ j, j < 26 → tn i = tn j → i = j := by decide +kernel
theorem tn_ok : ∀ i, i < 26 → okT (tn i, vn i) = true := by decide +kernel
theorem tn_ok3 : ∀ i, i < 26 → okT (tn i, 3) = true := by decide +kernel
theorem tn_len (i : Nat) : (tn i).length ≤ 3 := by
  unfold tn dig; split <;> simp
theorem tn_z (i : Nat) : tn i ≠ [122] := by
  unfold tn; intro h; cases h
theorem find_insN {k k' : List UInt8} {v : Int} {l : List Rw} (h : findM l k = none) : findM (insR k v l) k' = if k' = k then some v else findM l k' := by
  rcases find_ins (k := k) (k' := k') (v := v) (l := l) with e | ⟨_, e⟩
  · exact e
  · exact absurd h e
theorem findF : ∀ i, i ≤ 25 → ∀ j, j < 26 → findM (rF i) (tn j) = if j < i then some (vn j) else none
  | 0, _, j, _ => by simp [rF, findM]
  | i + 1, hi, j, hj => by
    have ih := findF i (by omega)
    unfold rF
    rw [find_insN (by rw [ih i (by omega), if_neg (by omega)]), ih j hj]
    by_cases e : j = i
    · subst e; simp
    · rw [if_neg fun h => e (tn_ne _ (by omega) _ (by omega) h)]
      by_cases h : j < i
      · rw [if_pos h, if_pos (by omega)]
      · rw [if_neg h, if_neg (by omega)]
theorem findZ : ∀ i, i ≤ 25 → findM (rF i) [122] = none
  | 0, _ => rfl
  | i + 1, hi => by
    unfold rF
    rw [find_insN (by rw [findF i (by omega) i (by omega), if_neg (by omega)]), if_neg (fun h => tn_z i h.symm), findZ i (by omega)]
theorem lenF : ∀ i, (rF i).length = i
  | 0 => rfl
  | i + 1 => by unfold rF; rw [len_ins, lenF i]
theorem relF : ∀ i, i ≤ 25 → RelT (rF i) (mF i)
  | 0, _ => RelT.nil
  | i + 1, hi => (relF i (by omega)).ins _ (by rw [findF i (by omega) i (by omega), if_neg (by omega)])
theorem goodF : ∀ i, i ≤ 25 → goodR (rF i)
  | 0, _ => goodNil
  | i + 1, hi => ins_good (goodF i (by omega)) (tn_ok i (by omega))
theorem rem_lenM {k : List UInt8} : ∀ {l : List Rw}, findM l k ≠ none → (remR k l).length + 1 = l.length := by
  intro l
  induction l with
  | nil => intro h; exact absurd rfl h
  | cons x r ih =>
    intro h
    unfold remR
    unfold findM at h
    split
    · rename_i hb
      rw [if_neg (fun e => bl_ne hb e.symm)] at h
      have := ih h
      simp only [List.length_cons]; omega
    · rfl
end Go.Proofs.Ytlcanameloklbaa.Tp

namespace Go.Proofs.Ytlcanameloklbaa.Tp
set_option maxRecDepth 100000
set_option maxHeartbeats 80000000
open Go.Sym

theorem dig_len (i : Nat) : (dig i).length ≤ 2 := by unfold dig; split <;> simp
theorem vnI {i : Nat} (h : i < 1000) : AV.int .i64 (IntKind.i64.wrap (1 + (i : Int).tmod 20)) = AV.int .i64 (vn i) := by
  have e0 : (i : Int).tmod 20 = ((i % 20 : Nat) : Int) := by rw [Int.tmod_eq_emod_of_nonneg (by omega)]; omega
  have e : IntKind.i64.wrap (1 + (i : Int).tmod 20) = vn i := by unfold vn; rw [e0, IntKind.wrap_i64]; omega
  rw [e]
theorem kmin {i : Nat} : (if (20 : Int) < (i : Int) then (20 : Int) else (i : Int)) = ((min i 20 : Nat) : Int) := by
  split <;> omega
structure FuI (n : Nat) where
  i : Nat
  b : Bool
  rows : List Rw
  m : List Rw
  lf : Int
  op : Int
  hi : i ≤ n
  er : rows = rF (min i 20)
  em : m = mF (min i 20)
  eb : b = decide (0 < i)
theorem lawFull21 {n g : Int} (hn : I64 n) (hg : I64 g) : CallOK Try.prog 9 [.int .i64 n, .int .i64 g] [] 0 TruT := by
  refine callOK Try.call9 Try.func9 Try.ntmps9 rfl ?_
  (conv => arg 4; whnf); repeat (refine ⟨rfl, ?_⟩; conv => arg 4; whnf)
  refine br_in (fun h => ?_) (fun h => ?_)
  · (conv => arg 4; whnf); repeat (refine ⟨rfl, ?_⟩; conv => arg 4; whnf)
    refine call0 awake21 (by (repeat' (first | with_reducible assumption | exact ClL.nil | exact Cl.int _ _ | exact Cl.bool _ | exact Cl.bl _ | exact Cl.bs _ | exact Cl.str _ | exact Cl.nils | exact Cl.nilp | exact Cl.rec _ | exact Cl.bat _ | exact Cl.recsV _ | exact Cl.strsV _ | exact Cl.intsV _ | exact Cl.req _ | exact Cl.rsp _ | exact Cl.reqA _ | exact Cl.rspA _ | exact Cl.batsV _ | exact Cl.prsV _ | exact Cl.atsV _ | exact Cl.entA _ _ | exact Cl.ent _ | exact Cl.rr _ _ | exact Cl.foundA _ | exact Cl.getB _ | exact Cl.encA _ | exact Cl.firstA _ | refine ClL.cons ?_ ?_ | refine Cl.tup ?_ | refine Cl.agg ?_ | exact ClO.RO _ _))) (by (repeat' (first | with_reducible assumption | exact ClL.nil | exact Cl.int _ _ | exact Cl.bool _ | exact Cl.bl _ | exact Cl.bs _ | exact Cl.str _ | exact Cl.nils | exact Cl.nilp | exact Cl.rec _ | exact Cl.bat _ | exact Cl.recsV _ | exact Cl.strsV _ | exact Cl.intsV _ | exact Cl.req _ | exact Cl.rsp _ | exact Cl.reqA _ | exact Cl.rspA _ | exact Cl.batsV _ | exact Cl.prsV _ | exact Cl.atsV _ | exact Cl.entA _ _ | exact Cl.ent _ | exact Cl.rr _ _ | exact Cl.foundA _ | exact Cl.getB _ | exact Cl.encA _ | exact Cl.firstA _ | refine ClL.cons ?_ ?_ | refine Cl.tup ?_ | refine Cl.agg ?_ | exact ClO.RO _ _))) ?_
    (conv => arg 4; whnf); repeat (refine ⟨rfl, ?_⟩; conv => arg 4; whnf)
    exact .inl rfl
  · rw [← Bool.not_eq_true] at h; simp only [Bool.cond_true_left, Bool.cond_false_right, Bool.or_eq_true, Bool.and_eq_true, Bool.not_eq_true', decide_eq_true_eq, beq_iff_eq, bne_iff_ne, u8s_length, gt_iff_lt, ge_iff_le] at h
    obtain ⟨n, rfl⟩ : ∃ m : Nat, n = m := ⟨n.toNat, by omega⟩
    have hn25 : n ≤ 25 := by omega
    clear h
    (conv => arg 4; whnf); repeat (refine ⟨rfl, ?_⟩; conv => arg 4; whnf)
    refine callG2 [] (.tup [.ptr 2 0, .int .i64 0]) [(2, dkO 0 1 1073741824 0 0), (1, .map []), (0, .map [])] (dNew4 (by decide)) rfl trivial rfl (Le.refl _ _) ⟨⟨_, rfl, LeO.refl _ _⟩, ⟨_, rfl, LeO.refl _ _⟩, ⟨_, rfl, LeO.refl _ _⟩, trivial⟩ ?_
    (conv => arg 4; whnf); repeat (refine ⟨rfl, ?_⟩; conv => arg 4; whnf)
    refine br_no (by decide) ?_
    (conv => arg 4; whnf); repeat (refine ⟨rfl, ?_⟩; conv => arg 4; whnf)
    refine callG2 [0, 1, 2, 3] (.tup [.ptr 5 0, .int .i64 0]) (TT [] none 1073741824 0 0) open0 rfl ⟨⟨by simp, rfl⟩, ⟨by simp, rfl⟩, ⟨by simp, rfl⟩, trivial⟩ rfl (Le.refl _ _) ⟨⟨_, rfl, LeO.refl _ _⟩, ⟨_, rfl, LeO.refl _ _⟩, ⟨_, rfl, LeO.refl _ _⟩, ⟨_, rfl, LeO.refl _ _⟩, ⟨_, rfl, LeO.refl _ _⟩, trivial⟩ ?_
    (conv => arg 4; whnf); repeat (refine ⟨rfl, ?_⟩; conv => arg 4; whnf)
    refine br_no (by decide) ?_
    (conv => arg 4; whnf); repeat (refine ⟨rfl, ?_⟩; conv => arg 4; whnf)
    refine tri_loopG (ι := FuI n) (fun x => ⟨[(9, .int .i64 x.i), (7, .ptr 9 0), (5, .ptr 2 0), (0, .int .i64 n), (1, .int .i64 g)], PH x.b x.rows x.m x.lf x.op, 10, 140⟩) (fun x => n - x.i) ⟨0, false, [], [], 0, 0, Nat.zero_le _, rfl, rfl, rfl⟩ (WkG.alias [0, 1, 2, 3, 4, 5, 1, 3, 4, 5] rfl rfl rfl ⟨Le.refl _ _, Le.refl _ _, Le.refl _ _, Le.refl _ _, Le.refl _ _, trivial⟩ ⟨⟨_, rfl, LeO.refl _ _⟩, ⟨_, rfl, LeO.refl _ _⟩, ⟨_, rfl, LeO.refl _ _⟩, ⟨_, rfl, LeO.refl _ _⟩, ⟨_, rfl, LeO.refl _ _⟩, trivial⟩) ?_
    rintro ⟨i, b, rows, m, lf, op, hi, er, em, eb⟩
    dsimp only
    have good : goodR rows := by rw [er]; exact goodF _ (by omega)
    have rel : RelT rows m := by rw [er, em]; exact relF _ (by omega)
    have len : rows.length = min i 20 := by rw [er, lenF]
    cases b with
    | false =>
      (conv => arg 4; whnf); repeat (refine ⟨rfl, ?_⟩; conv => arg 4; whnf)
      refine br_in (fun hlt => ?_) (fun hlt => ?_)
      · have hlt : i < n := by simp at hlt; omega
        (conv => arg 4; whnf); repeat (refine ⟨rfl, ?_⟩; conv => arg 4; whnf)
        refine br_in (fun h20 => ?_) (fun h20 => ?_)
        · have h20 : 20 ≤ i := by simp at h20; omega
          (conv => arg 4; whnf); repeat (refine ⟨rfl, ?_⟩; conv => arg 4; whnf)
          refine call0 (tDec (n := i) (by omega)) (by (repeat' (first | with_reducible assumption | exact ClL.nil | exact Cl.int _ _ | exact Cl.bool _ | exact Cl.bl _ | exact Cl.bs _ | exact Cl.str _ | exact Cl.nils | exact Cl.nilp | exact Cl.rec _ | exact Cl.bat _ | exact Cl.recsV _ | exact Cl.strsV _ | exact Cl.intsV _ | exact Cl.req _ | exact Cl.rsp _ | exact Cl.reqA _ | exact Cl.rspA _ | exact Cl.batsV _ | exact Cl.prsV _ | exact Cl.atsV _ | exact Cl.entA _ _ | exact Cl.ent _ | exact Cl.rr _ _ | exact Cl.foundA _ | exact Cl.getB _ | exact Cl.encA _ | exact Cl.firstA _ | refine ClL.cons ?_ ?_ | refine Cl.tup ?_ | refine Cl.agg ?_ | exact ClO.RO _ _))) (by (repeat' (first | with_reducible assumption | exact ClL.nil | exact Cl.int _ _ | exact Cl.bool _ | exact Cl.bl _ | exact Cl.bs _ | exact Cl.str _ | exact Cl.nils | exact Cl.nilp | exact Cl.rec _ | exact Cl.bat _ | exact Cl.recsV _ | exact Cl.strsV _ | exact Cl.intsV _ | exact Cl.req _ | exact Cl.rsp _ | exact Cl.reqA _ | exact Cl.rspA _ | exact Cl.batsV _ | exact Cl.prsV _ | exact Cl.atsV _ | exact Cl.entA _ _ | exact Cl.ent _ | exact Cl.rr _ _ | exact Cl.foundA _ | exact Cl.getB _ | exact Cl.encA _ | exact Cl.firstA _ | refine ClL.cons ?_ ?_ | refine Cl.tup ?_ | refine Cl.agg ?_ | exact ClO.RO _ _))) ?_
          (conv => arg 4; whnf); repeat (refine ⟨rfl, ?_⟩; conv => arg 4; whnf)
          refine need_in (by have := dig_len i; show ((1 + (dig i).length : Nat) : Int) ≤ 9223372036854775807; omega) ?_
          (conv => arg 4; whnf); repeat (refine ⟨rfl, ?_⟩; conv => arg 4; whnf)
          refine need_in (by decide) ?_
          (conv => arg 4; whnf); repeat (refine ⟨rfl, ?_⟩; conv => arg 4; whnf)
          rw [vnI (by omega)]
          (conv => arg 4; whnf); repeat (refine ⟨rfl, ?_⟩; conv => arg 4; whnf)
          refine callG2 [0, 6, 2, 7, 8, 9] (.int .i64 2) [(9, tbO 2 8), (8, .map (fE m)), (2, dkO 0 6 1073741824 lf op), (6, .map []), (0, .map [])] (createBad (l := rows) (m := m) (fs := none) (room := 1073741824) (lf := lf) (op := op) (k := tn i) (v := vn i) rel (by have := tn_len i; omega) (tn_ok i (by omega)) (by rw [er, findF _ (by omega) i (by omega), if_neg (by omega)]) (by omega)) rfl ⟨⟨by simp, rfl⟩, ⟨by simp, by rw [ClO.fE]; rfl⟩, ⟨by simp, rfl⟩, ⟨by simp, rfl⟩, ⟨by simp, rfl⟩, trivial⟩ rfl (Le.refl _ _) ⟨⟨_, rfl, LeO.refl _ _⟩, ⟨_, rfl, LeO.cl (ClO.fE _)⟩, ⟨_, rfl, LeO.refl _ _⟩, ⟨_, rfl, LeO.refl _ _⟩, ⟨_, rfl, LeO.refl _ _⟩, trivial⟩ ?_
          (conv => arg 4; whnf); repeat (refine ⟨rfl, ?_⟩; conv => arg 4; whnf)
          refine br_no (by decide) ?_
          (conv => arg 4; whnf); repeat (refine ⟨rfl, ?_⟩; conv => arg 4; whnf)
          exfalso; simp at eb; omega
        · have h20 : i < 20 := by simp at h20; omega
          (conv => arg 4; whnf); repeat (refine ⟨rfl, ?_⟩; conv => arg 4; whnf)
          refine call0 (tDec (n := i) (by omega)) (by (repeat' (first | with_reducible assumption | exact ClL.nil | exact Cl.int _ _ | exact Cl.bool _ | exact Cl.bl _ | exact Cl.bs _ | exact Cl.str _ | exact Cl.nils | exact Cl.nilp | exact Cl.rec _ | exact Cl.bat _ | exact Cl.recsV _ | exact Cl.strsV _ | exact Cl.intsV _ | exact Cl.req _ | exact Cl.rsp _ | exact Cl.reqA _ | exact Cl.rspA _ | exact Cl.batsV _ | exact Cl.prsV _ | exact Cl.atsV _ | exact Cl.entA _ _ | exact Cl.ent _ | exact Cl.rr _ _ | exact Cl.foundA _ | exact Cl.getB _ | exact Cl.encA _ | exact Cl.firstA _ | refine ClL.cons ?_ ?_ | refine Cl.tup ?_ | refine Cl.agg ?_ | exact ClO.RO _ _))) (by (repeat' (first | with_reducible assumption | exact ClL.nil | exact Cl.int _ _ | exact Cl.bool _ | exact Cl.bl _ | exact Cl.bs _ | exact Cl.str _ | exact Cl.nils | exact Cl.nilp | exact Cl.rec _ | exact Cl.bat _ | exact Cl.recsV _ | exact Cl.strsV _ | exact Cl.intsV _ | exact Cl.req _ | exact Cl.rsp _ | exact Cl.reqA _ | exact Cl.rspA _ | exact Cl.batsV _ | exact Cl.prsV _ | exact Cl.atsV _ | exact Cl.entA _ _ | exact Cl.ent _ | exact Cl.rr _ _ | exact Cl.foundA _ | exact Cl.getB _ | exact Cl.encA _ | exact Cl.firstA _ | refine ClL.cons ?_ ?_ | refine Cl.tup ?_ | refine Cl.agg ?_ | exact ClO.RO _ _))) ?_
          (conv => arg 4; whnf); repeat (refine ⟨rfl, ?_⟩; conv => arg 4; whnf)
          refine need_in (by have := dig_len i; show ((1 + (dig i).length : Nat) : Int) ≤ 9223372036854775807; omega) ?_
          (conv => arg 4; whnf); repeat (refine ⟨rfl, ?_⟩; conv => arg 4; whnf)
          refine need_in (by decide) ?_
          (conv => arg 4; whnf); repeat (refine ⟨rfl, ?_⟩; conv => arg 4; whnf)
          rw [vnI (by omega)]
          (conv => arg 4; whnf); repeat (refine ⟨rfl, ?_⟩; conv => arg 4; whnf)
          have hmin : min i 20 = i := by omega
          rw [hmin] at er em
          subst er em
          rw [lenF] at len
          refine callGE2 [0, 6, 2, 7, 8, 9] (fun _ => .int .i64 0) (fun y => [(9, tbO 2 10), (10, .map (fE (mF (i + 1)))), (2, dkO 0 12 1073741824 y.lf y.op), (0, .map [(.str tN, .ptr 11 0)]), (12, .map [(.str tN, .ptr 11 0)]), (11, .cells [bs (encR (rF (i + 1))), .int .i64 (encR (rF (i + 1))).length])]) (createOk (l := rF i) (m := mF i) (fs := none) (room := 1073741824) (lf := lf) (op := op) (k := tn i) (v := vn i) rel good (by rw [lenF]; omega) (tn_ok i (by omega)) (by rw [findF _ (by omega) i (by omega), if_neg (by omega)]) (fun _ h => (nomatch h)) (by decide)) rfl ⟨⟨by simp, rfl⟩, ⟨by simp, by rw [ClO.fE]; rfl⟩, ⟨by simp, rfl⟩, ⟨by simp, rfl⟩, ⟨by simp, rfl⟩, trivial⟩ rfl (fun _ _ => Le.refl _ _) (fun _ _ => ⟨⟨_, rfl, LeO.refl _ _⟩, ⟨_, rfl, LeO.cl (ClO.fE _)⟩, ⟨_, rfl, LeO.refl _ _⟩, ⟨_, rfl, LeO.refl _ _⟩, ⟨_, rfl, LeO.refl _ _⟩, ⟨_, rfl, LeO.cl (ClO.fil _)⟩, trivial⟩) fun y _ => ?_
          (conv => arg 4; whnf); repeat (refine ⟨rfl, ?_⟩; conv => arg 4; whnf)
          refine br_no (by decide) ?_
          (conv => arg 4; whnf); repeat (refine ⟨rfl, ?_⟩; conv => arg 4; whnf)
          exact ⟨⟨i + 1, true, (rF (i + 1)), (mF (i + 1)), y.lf, y.op, hlt, (by rw [show min (i + 1) 20 = i + 1 by omega]), (by rw [show min (i + 1) 20 = i + 1 by omega]), by simp⟩, by show n - (i + 1) < n - i; omega, WkG.alias [0, 1, 2, 3, 4, 5, 12, 11, 10, 9] rfl rfl rfl ⟨Le.of_eq (succ21 (by omega)), Le.refl _ _, Le.refl _ _, Le.refl _ _, Le.refl _ _, trivial⟩ ⟨⟨_, rfl, LeO.refl _ _⟩, ⟨_, rfl, LeO.lc (ClO.fE _)⟩, ⟨_, rfl, LeO.refl _ _⟩, ⟨_, rfl, LeO.refl _ _⟩, ⟨_, rfl, LeO.refl _ _⟩, ⟨_, rfl, LeO.lc (ClO.fil _)⟩, trivial⟩⟩
      · have hlt : i = n := by simp at hlt; omega
        subst hlt
        (conv => arg 4; whnf); repeat (refine ⟨rfl, ?_⟩; conv => arg 4; whnf)
        refine fin_exit ?_
        show holds _ _ _ _
        conv => arg 4; whnf
        refine callG2 [0, 6, 2, 7, 8, 9] (.sl .none 2 (rowsA rows)) [(9, tbO 2 8), (8, .map (fE m)), (2, dkO 0 6 1073741824 lf op), (6, .map []), (0, .map [])] (tList rel (by omega)) rfl ⟨⟨by simp, rfl⟩, ⟨by simp, by rw [ClO.fE]; rfl⟩, trivial⟩ rfl (Le.cl (Cl.sl (ClL.rows _))) ⟨⟨_, rfl, LeO.refl _ _⟩, ⟨_, rfl, LeO.cl (ClO.fE _)⟩, ⟨_, rfl, LeO.refl _ _⟩, ⟨_, rfl, LeO.refl _ _⟩, ⟨_, rfl, LeO.refl _ _⟩, trivial⟩ ?_
        (conv => arg 4; whnf); repeat (refine ⟨rfl, ?_⟩; conv => arg 4; whnf)
        rw [kmin]
        refine br_no (by rw [rows_length, len]; simp) ?_
        (conv => arg 4; whnf); repeat (refine ⟨rfl, ?_⟩; conv => arg 4; whnf)
        have hi0 : i = 0 := by simpa using eb.symm
        subst hi0
        obtain rfl : rows = [] := er
        refine br_yes (by rfl) ?_
        (conv => arg 4; whnf); repeat (refine ⟨rfl, ?_⟩; conv => arg 4; whnf)
        refine callG2 [0, 6, 2, 7, 8, 9] (.int .i64 5) [(9, tbO 2 8), (8, .map (fE m)), (2, dkO 0 6 1073741824 lf op), (6, .map []), (0, .map [])] (deleteNone (l := []) (m := m) (fs := none) (room := 1073741824) (lf := lf) (op := op) (k := [116, 48]) (v := 0) rel rfl) rfl ⟨⟨by simp, rfl⟩, ⟨by simp, by rw [ClO.fE]; rfl⟩, ⟨by simp, rfl⟩, ⟨by simp, rfl⟩, ⟨by simp, rfl⟩, trivial⟩ rfl (Le.refl _ _) ⟨⟨_, rfl, LeO.refl _ _⟩, ⟨_, rfl, LeO.cl (ClO.fE _)⟩, ⟨_, rfl, LeO.refl _ _⟩, ⟨_, rfl, LeO.refl _ _⟩, ⟨_, rfl, LeO.refl _ _⟩, trivial⟩ ?_
        (conv => arg 4; whnf); repeat (refine ⟨rfl, ?_⟩; conv => arg 4; whnf)
        refine br_yes (by rfl) ?_
        (conv => arg 4; whnf); repeat (refine ⟨rfl, ?_⟩; conv => arg 4; whnf)
        refine call0 awake21 (by (repeat' (first | with_reducible assumption | exact ClL.nil | exact Cl.int _ _ | exact Cl.bool _ | exact Cl.bl _ | exact Cl.bs _ | exact Cl.str _ | exact Cl.nils | exact Cl.nilp | exact Cl.rec _ | exact Cl.bat _ | exact Cl.recsV _ | exact Cl.strsV _ | exact Cl.intsV _ | exact Cl.req _ | exact Cl.rsp _ | exact Cl.reqA _ | exact Cl.rspA _ | exact Cl.batsV _ | exact Cl.prsV _ | exact Cl.atsV _ | exact Cl.entA _ _ | exact Cl.ent _ | exact Cl.rr _ _ | exact Cl.foundA _ | exact Cl.getB _ | exact Cl.encA _ | exact Cl.firstA _ | refine ClL.cons ?_ ?_ | refine Cl.tup ?_ | refine Cl.agg ?_ | exact ClO.RO _ _))) (by (repeat' (first | with_reducible assumption | exact ClL.nil | exact Cl.int _ _ | exact Cl.bool _ | exact Cl.bl _ | exact Cl.bs _ | exact Cl.str _ | exact Cl.nils | exact Cl.nilp | exact Cl.rec _ | exact Cl.bat _ | exact Cl.recsV _ | exact Cl.strsV _ | exact Cl.intsV _ | exact Cl.req _ | exact Cl.rsp _ | exact Cl.reqA _ | exact Cl.rspA _ | exact Cl.batsV _ | exact Cl.prsV _ | exact Cl.atsV _ | exact Cl.entA _ _ | exact Cl.ent _ | exact Cl.rr _ _ | exact Cl.foundA _ | exact Cl.getB _ | exact Cl.encA _ | exact Cl.firstA _ | refine ClL.cons ?_ ?_ | refine Cl.tup ?_ | refine Cl.agg ?_ | exact ClO.RO _ _))) ?_
        (conv => arg 4; whnf); repeat (refine ⟨rfl, ?_⟩; conv => arg 4; whnf)
        exact .inl rfl
    | true =>
      (conv => arg 4; whnf); repeat (refine ⟨rfl, ?_⟩; conv => arg 4; whnf)
      refine br_in (fun hlt => ?_) (fun hlt => ?_)
      · have hlt : i < n := by simp at hlt; omega
        (conv => arg 4; whnf); repeat (refine ⟨rfl, ?_⟩; conv => arg 4; whnf)
        refine br_in (fun h20 => ?_) (fun h20 => ?_)
        · have h20 : 20 ≤ i := by simp at h20; omega
          (conv => arg 4; whnf); repeat (refine ⟨rfl, ?_⟩; conv => arg 4; whnf)
          refine call0 (tDec (n := i) (by omega)) (by (repeat' (first | with_reducible assumption | exact ClL.nil | exact Cl.int _ _ | exact Cl.bool _ | exact Cl.bl _ | exact Cl.bs _ | exact Cl.str _ | exact Cl.nils | exact Cl.nilp | exact Cl.rec _ | exact Cl.bat _ | exact Cl.recsV _ | exact Cl.strsV _ | exact Cl.intsV _ | exact Cl.req _ | exact Cl.rsp _ | exact Cl.reqA _ | exact Cl.rspA _ | exact Cl.batsV _ | exact Cl.prsV _ | exact Cl.atsV _ | exact Cl.entA _ _ | exact Cl.ent _ | exact Cl.rr _ _ | exact Cl.foundA _ | exact Cl.getB _ | exact Cl.encA _ | exact Cl.firstA _ | refine ClL.cons ?_ ?_ | refine Cl.tup ?_ | refine Cl.agg ?_ | exact ClO.RO _ _))) (by (repeat' (first | with_reducible assumption | exact ClL.nil | exact Cl.int _ _ | exact Cl.bool _ | exact Cl.bl _ | exact Cl.bs _ | exact Cl.str _ | exact Cl.nils | exact Cl.nilp | exact Cl.rec _ | exact Cl.bat _ | exact Cl.recsV _ | exact Cl.strsV _ | exact Cl.intsV _ | exact Cl.req _ | exact Cl.rsp _ | exact Cl.reqA _ | exact Cl.rspA _ | exact Cl.batsV _ | exact Cl.prsV _ | exact Cl.atsV _ | exact Cl.entA _ _ | exact Cl.ent _ | exact Cl.rr _ _ | exact Cl.foundA _ | exact Cl.getB _ | exact Cl.encA _ | exact Cl.firstA _ | refine ClL.cons ?_ ?_ | refine Cl.tup ?_ | refine Cl.agg ?_ | exact ClO.RO _ _))) ?_
          (conv => arg 4; whnf); repeat (refine ⟨rfl, ?_⟩; conv => arg 4; whnf)
          refine need_in (by have := dig_len i; show ((1 + (dig i).length : Nat) : Int) ≤ 9223372036854775807; omega) ?_
          (conv => arg 4; whnf); repeat (refine ⟨rfl, ?_⟩; conv => arg 4; whnf)
          refine need_in (by decide) ?_
          (conv => arg 4; whnf); repeat (refine ⟨rfl, ?_⟩; conv => arg 4; whnf)
          rw [vnI (by omega)]
          (conv => arg 4; whnf); repeat (refine ⟨rfl, ?_⟩; conv => arg 4; whnf)
          refine callG2 [0, 6, 2, 7, 8, 9] (.int .i64 2) [(9, tbO 2 8), (8, .map (fE m)), (2, dkO 0 6 1073741824 lf op), (6, .map [(.str tN, .ptr 7 0)]), (0, .map [(.str tN, .ptr 7 0)]), (7, .cells [bs (encR rows), .int .i64 (encR rows).length])] (createBad (l := rows) (m := m) (fs := (some (encR rows))) (room := 1073741824) (lf := lf) (op := op) (k := tn i) (v := vn i) rel (by have := tn_len i; omega) (tn_ok i (by omega)) (by rw [er, findF _ (by omega) i (by omega), if_neg (by omega)]) (by omega)) rfl ⟨⟨by simp, rfl⟩, ⟨by simp, by rw [ClO.fE]; rfl⟩, ⟨by simp, rfl⟩, ⟨by simp, rfl⟩, ⟨by simp, rfl⟩, ⟨by simp, by rw [ClO.fil]; rfl⟩, trivial⟩ rfl (Le.refl _ _) ⟨⟨_, rfl, LeO.refl _ _⟩, ⟨_, rfl, LeO.cl (ClO.fE _)⟩, ⟨_, rfl, LeO.refl _ _⟩, ⟨_, rfl, LeO.refl _ _⟩, ⟨_, rfl, LeO.refl _ _⟩, ⟨_, rfl, LeO.cl (ClO.fil _)⟩, trivial⟩ ?_
          (conv => arg 4; whnf); repeat (refine ⟨rfl, ?_⟩; conv => arg 4; whnf)
          refine br_no (by decide) ?_
          (conv => arg 4; whnf); repeat (refine ⟨rfl, ?_⟩; conv => arg 4; whnf)
          exact ⟨⟨i + 1, true, rows, m, lf, op, hlt, (er.trans (by rw [show min (i + 1) 20 = min i 20 by omega])), (em.trans (by rw [show min (i + 1) 20 = min i 20 by omega])), by simp⟩, by show n - (i + 1) < n - i; omega, WkG.alias [0, 1, 2, 3, 4, 5, 6, 7, 8, 9] rfl rfl rfl ⟨Le.of_eq (succ21 (by omega)), Le.refl _ _, Le.refl _ _, Le.refl _ _, Le.refl _ _, trivial⟩ ⟨⟨_, rfl, LeO.refl _ _⟩, ⟨_, rfl, LeO.lc (ClO.fE _)⟩, ⟨_, rfl, LeO.refl _ _⟩, ⟨_, rfl, LeO.refl _ _⟩, ⟨_, rfl, LeO.refl _ _⟩, ⟨_, rfl, LeO.lc (ClO.fil _)⟩, trivial⟩⟩
        · have h20 : i < 20 := by simp at h20; omega
          (conv => arg 4; whnf); repeat (refine ⟨rfl, ?_⟩; conv => arg 4; whnf)
          refine call0 (tDec (n := i) (by omega)) (by (repeat' (first | with_reducible assumption | exact ClL.nil | exact Cl.int _ _ | exact Cl.bool _ | exact Cl.bl _ | exact Cl.bs _ | exact Cl.str _ | exact Cl.nils | exact Cl.nilp | exact Cl.rec _ | exact Cl.bat _ | exact Cl.recsV _ | exact Cl.strsV _ | exact Cl.intsV _ | exact Cl.req _ | exact Cl.rsp _ | exact Cl.reqA _ | exact Cl.rspA _ | exact Cl.batsV _ | exact Cl.prsV _ | exact Cl.atsV _ | exact Cl.entA _ _ | exact Cl.ent _ | exact Cl.rr _ _ | exact Cl.foundA _ | exact Cl.getB _ | exact Cl.encA _ | exact Cl.firstA _ | refine ClL.cons ?_ ?_ | refine Cl.tup ?_ | refine Cl.agg ?_ | exact ClO.RO _ _))) (by (repeat' (first | with_reducible assumption | exact ClL.nil | exact Cl.int _ _ | exact Cl.bool _ | exact Cl.bl _ | exact Cl.bs _ | exact Cl.str _ | exact Cl.nils | exact Cl.nilp | exact Cl.rec _ | exact Cl.bat _ | exact Cl.recsV _ | exact Cl.strsV _ | exact Cl.intsV _ | exact Cl.req _ | exact Cl.rsp _ | exact Cl.reqA _ | exact Cl.rspA _ | exact Cl.batsV _ | exact Cl.prsV _ | exact Cl.atsV _ | exact Cl.entA _ _ | exact Cl.ent _ | exact Cl.rr _ _ | exact Cl.foundA _ | exact Cl.getB _ | exact Cl.encA _ | exact Cl.firstA _ | refine ClL.cons ?_ ?_ | refine Cl.tup ?_ | refine Cl.agg ?_ | exact ClO.RO _ _))) ?_
          (conv => arg 4; whnf); repeat (refine ⟨rfl, ?_⟩; conv => arg 4; whnf)
          refine need_in (by have := dig_len i; show ((1 + (dig i).length : Nat) : Int) ≤ 9223372036854775807; omega) ?_
          (conv => arg 4; whnf); repeat (refine ⟨rfl, ?_⟩; conv => arg 4; whnf)
          refine need_in (by decide) ?_
          (conv => arg 4; whnf); repeat (refine ⟨rfl, ?_⟩; conv => arg 4; whnf)
          rw [vnI (by omega)]
          (conv => arg 4; whnf); repeat (refine ⟨rfl, ?_⟩; conv => arg 4; whnf)
          have hmin : min i 20 = i := by omega
          rw [hmin] at er em
          subst er em
          rw [lenF] at len
          refine callGE2 [0, 6, 2, 7, 8, 9] (fun _ => .int .i64 0) (fun y => [(9, tbO 2 10), (10, .map (fE (mF (i + 1)))), (2, dkO 0 12 1073741824 y.lf y.op), (0, .map [(.str tN, .ptr 11 0)]), (12, .map [(.str tN, .ptr 11 0)]), (11, .cells [bs (encR (rF (i + 1))), .int .i64 (encR (rF (i + 1))).length])]) (createOk (l := rF i) (m := mF i) (fs := (some (encR (rF i)))) (room := 1073741824) (lf := lf) (op := op) (k := tn i) (v := vn i) rel good (by rw [lenF]; omega) (tn_ok i (by omega)) (by rw [findF _ (by omega) i (by omega), if_neg (by omega)]) (fun b hb => by cases hb; exact Nat.le_trans (encR_len good.fine (by rw [lenF]; omega)) (by decide)) (by decide)) rfl ⟨⟨by simp, rfl⟩, ⟨by simp, by rw [ClO.fE]; rfl⟩, ⟨by simp, rfl⟩, ⟨by simp, rfl⟩, ⟨by simp, rfl⟩, ⟨by simp, by rw [ClO.fil]; rfl⟩, trivial⟩ rfl (fun _ _ => Le.refl _ _) (fun _ _ => ⟨⟨_, rfl, LeO.refl _ _⟩, ⟨_, rfl, LeO.cl (ClO.fE _)⟩, ⟨_, rfl, LeO.refl _ _⟩, ⟨_, rfl, LeO.refl _ _⟩, ⟨_, rfl, LeO.refl _ _⟩, ⟨_, rfl, LeO.cl (ClO.fil _)⟩, trivial⟩) fun y _ => ?_
          (conv => arg 4; whnf); repeat (refine ⟨rfl, ?_⟩; conv => arg 4; whnf)
          refine br_no (by decide) ?_
          (conv => arg 4; whnf); repeat (refine ⟨rfl, ?_⟩; conv => arg 4; whnf)
          exact ⟨⟨i + 1, true, (rF (i + 1)), (mF (i + 1)), y.lf, y.op, hlt, (by rw [show min (i + 1) 20 = i + 1 by omega]), (by rw [show min (i + 1) 20 = i + 1 by omega]), by simp⟩, by show n - (i + 1) < n - i; omega, WkG.alias [0, 1, 2, 3, 4, 5, 12, 11, 10, 9] rfl rfl rfl ⟨Le.of_eq (succ21 (by omega)), Le.refl _ _, Le.refl _ _, Le.refl _ _, Le.refl _ _, trivial⟩ ⟨⟨_, rfl, LeO.refl _ _⟩, ⟨_, rfl, LeO.lc (ClO.fE _)⟩, ⟨_, rfl, LeO.refl _ _⟩, ⟨_, rfl, LeO.refl _ _⟩, ⟨_, rfl, LeO.refl _ _⟩, ⟨_, rfl, LeO.lc (ClO.fil _)⟩, trivial⟩⟩
      · have hlt : i = n := by simp at hlt; omega
        subst hlt
        (conv => arg 4; whnf); repeat (refine ⟨rfl, ?_⟩; conv => arg 4; whnf)
        refine fin_exit ?_
        show holds _ _ _ _
        conv => arg 4; whnf
        refine callG2 [0, 6, 2, 7, 8, 9] (.sl .none 2 (rowsA rows)) [(9, tbO 2 8), (8, .map (fE m)), (2, dkO 0 6 1073741824 lf op), (6, .map [(.str tN, .ptr 7 0)]), (0, .map [(.str tN, .ptr 7 0)]), (7, .cells [bs (encR rows), .int .i64 (encR rows).length])] (tList rel (by omega)) rfl ⟨⟨by simp, rfl⟩, ⟨by simp, by rw [ClO.fE]; rfl⟩, trivial⟩ rfl (Le.cl (Cl.sl (ClL.rows _))) ⟨⟨_, rfl, LeO.refl _ _⟩, ⟨_, rfl, LeO.cl (ClO.fE _)⟩, ⟨_, rfl, LeO.refl _ _⟩, ⟨_, rfl, LeO.refl _ _⟩, ⟨_, rfl, LeO.refl _ _⟩, ⟨_, rfl, LeO.refl _ _⟩, trivial⟩ ?_
        (conv => arg 4; whnf); repeat (refine ⟨rfl, ?_⟩; conv => arg 4; whnf)
        rw [kmin]
        refine br_no (by rw [rows_length, len]; simp) ?_
        (conv => arg 4; whnf); repeat (refine ⟨rfl, ?_⟩; conv => arg 4; whnf)
        have hi0 : 0 < i := by simpa using eb.symm
        have hK : 1 ≤ min i 20 ∧ min i 20 ≤ 20 := by omega
        generalize hKe : min i 20 = K at *
        refine br_no (by simp; omega) ?_
        (conv => arg 4; whnf); repeat (refine ⟨rfl, ?_⟩; conv => arg 4; whnf)
        obtain ⟨c, hc1, _, cR⟩ := round (k := g) (n := (K : Int)) hg (by omega)
        refine call0 cR (by (repeat' (first | with_reducible assumption | exact ClL.nil | exact Cl.int _ _ | exact Cl.bool _ | exact Cl.bl _ | exact Cl.bs _ | exact Cl.str _ | exact Cl.nils | exact Cl.nilp | exact Cl.rec _ | exact Cl.bat _ | exact Cl.recsV _ | exact Cl.strsV _ | exact Cl.intsV _ | exact Cl.req _ | exact Cl.rsp _ | exact Cl.reqA _ | exact Cl.rspA _ | exact Cl.batsV _ | exact Cl.prsV _ | exact Cl.atsV _ | exact Cl.entA _ _ | exact Cl.ent _ | exact Cl.rr _ _ | exact Cl.foundA _ | exact Cl.getB _ | exact Cl.encA _ | exact Cl.firstA _ | refine ClL.cons ?_ ?_ | refine Cl.tup ?_ | refine Cl.agg ?_ | exact ClO.RO _ _))) (by (repeat' (first | with_reducible assumption | exact ClL.nil | exact Cl.int _ _ | exact Cl.bool _ | exact Cl.bl _ | exact Cl.bs _ | exact Cl.str _ | exact Cl.nils | exact Cl.nilp | exact Cl.rec _ | exact Cl.bat _ | exact Cl.recsV _ | exact Cl.strsV _ | exact Cl.intsV _ | exact Cl.req _ | exact Cl.rsp _ | exact Cl.reqA _ | exact Cl.rspA _ | exact Cl.batsV _ | exact Cl.prsV _ | exact Cl.atsV _ | exact Cl.entA _ _ | exact Cl.ent _ | exact Cl.rr _ _ | exact Cl.foundA _ | exact Cl.getB _ | exact Cl.encA _ | exact Cl.firstA _ | refine ClL.cons ?_ ?_ | refine Cl.tup ?_ | refine Cl.agg ?_ | exact ClO.RO _ _))) ?_
        (conv => arg 4; whnf); repeat (refine ⟨rfl, ?_⟩; conv => arg 4; whnf)
        refine call0 (tDec (n := c) (by omega)) (by (repeat' (first | with_reducible assumption | exact ClL.nil | exact Cl.int _ _ | exact Cl.bool _ | exact Cl.bl _ | exact Cl.bs _ | exact Cl.str _ | exact Cl.nils | exact Cl.nilp | exact Cl.rec _ | exact Cl.bat _ | exact Cl.recsV _ | exact Cl.strsV _ | exact Cl.intsV _ | exact Cl.req _ | exact Cl.rsp _ | exact Cl.reqA _ | exact Cl.rspA _ | exact Cl.batsV _ | exact Cl.prsV _ | exact Cl.atsV _ | exact Cl.entA _ _ | exact Cl.ent _ | exact Cl.rr _ _ | exact Cl.foundA _ | exact Cl.getB _ | exact Cl.encA _ | exact Cl.firstA _ | refine ClL.cons ?_ ?_ | refine Cl.tup ?_ | refine Cl.agg ?_ | exact ClO.RO _ _))) (by (repeat' (first | with_reducible assumption | exact ClL.nil | exact Cl.int _ _ | exact Cl.bool _ | exact Cl.bl _ | exact Cl.bs _ | exact Cl.str _ | exact Cl.nils | exact Cl.nilp | exact Cl.rec _ | exact Cl.bat _ | exact Cl.recsV _ | exact Cl.strsV _ | exact Cl.intsV _ | exact Cl.req _ | exact Cl.rsp _ | exact Cl.reqA _ | exact Cl.rspA _ | exact Cl.batsV _ | exact Cl.prsV _ | exact Cl.atsV _ | exact Cl.entA _ _ | exact Cl.ent _ | exact Cl.rr _ _ | exact Cl.foundA _ | exact Cl.getB _ | exact Cl.encA _ | exact Cl.firstA _ | refine ClL.cons ?_ ?_ | refine Cl.tup ?_ | refine Cl.agg ?_ | exact ClO.RO _ _))) ?_
        (conv => arg 4; whnf); repeat (refine ⟨rfl, ?_⟩; conv => arg 4; whnf)
        refine need_in (by have := dig_len c; show ((1 + (dig c).length : Nat) : Int) ≤ 9223372036854775807; omega) ?_
        (conv => arg 4; whnf); repeat (refine ⟨rfl, ?_⟩; conv => arg 4; whnf)
        have hcK : c < K := by omega
        have f1 : findM rows (tn c) = some (vn c) := by rw [er, findF K (by omega) c (by omega), if_pos hcK]
        have f1' : findM rows (tn c) ≠ none := by rw [f1]; simp
        have rel1 := rel.rem f1'
        have good1 := rem_good (k := tn c) good
        have len1 := rem_lenM f1'
        have f2 : findM (remR (tn c) rows) (tn c) = none := by rw [find_rem rel.srt f1', if_pos rfl]
        have f3 : findM (remR (tn c) rows) [122] = none := by rw [find_rem rel.srt f1', if_neg (fun h => tn_z c h.symm), er, findZ K (by omega)]
        have rel2 := rel1.ins 3 f3
        have good2 := ins_good good1 (k := [122]) (v := 3) (by decide +kernel)
        have len2 := len_ins [122] 3 (remR (tn c) rows)
        have f4 : findM (insR [122] 3 (remR (tn c) rows)) [122] = some 3 := by rw [find_insN f3, if_pos rfl]
        have f5 : findM (insR [122] 3 (remR (tn c) rows)) (tn c) = none := by rw [find_insN f3, if_neg (tn_z c), f2]
        have cDel := deleteOk (l := rows) (m := m) (k := tn c) (fs := some (encR rows)) (room := 1073741824) (lf := lf) (op := op) rel good (by omega) f1' (fun b hb => by cases hb; exact Nat.le_trans (encR_len good.fine (by omega)) (by decide)) (by decide)
        have cNone := fun lf op : Int => deleteNone (l := remR (tn c) rows) (m := delM m (tn c)) (fs := some (encR (remR (tn c) rows))) (room := 1073741824) (lf := lf) (op := op) (k := tn c) (v := 0) rel1 f2
        have cCre := fun lf op : Int => createOk (l := remR (tn c) rows) (m := delM m (tn c)) (fs := some (encR (remR (tn c) rows))) (room := 1073741824) (lf := lf) (op := op) (k := [122]) (v := 3) rel1 good1 (by omega) (by decide +kernel) f3 (fun b hb => by cases hb; exact Nat.le_trans (encR_len good1.fine (by omega)) (by decide)) (by decide)
        have cOpen := fun lf op : Int => open1 (l := (insR [122] 3 (remR (tn c) rows))) (room := 1073741824) (lf := lf) (op := op) rel2.srt good2 (by omega)
        have cP1 := fun lf op : Int => partsOf (l := (insR [122] 3 (remR (tn c) rows))) (m := (insR [122] 3 (remR (tn c) rows))) (fs := some (encR (insR [122] 3 (remR (tn c) rows)))) (room := 1073741824) (lf := lf) (op := op) (k := [122]) (v := 0) (RelT.self rel2.srt)
        have cP2 := fun lf op : Int => partsOf (l := (insR [122] 3 (remR (tn c) rows))) (m := (insR [122] 3 (remR (tn c) rows))) (fs := some (encR (insR [122] 3 (remR (tn c) rows)))) (room := 1073741824) (lf := lf) (op := op) (k := tn c) (v := 0) (RelT.self rel2.srt)
        have cL := tList (RelT.self rel2.srt) (by omega)
        simp only [f4] at cP1
        simp only [f5] at cP2
        generalize hr1 : remR (tn c) rows = r1 at *
        generalize hm1 : delM m (tn c) = m1 at *
        generalize hr2 : insR [122] 3 r1 = r2 at *
        generalize hm2 : setM m1 [122] 3 = m2 at *
        refine callGE2 [0, 6, 2, 7, 8, 9] (fun _ => .int .i64 0) (fun y => [(9, tbO 2 10), (10, .map (fE m1)), (2, dkO 0 12 1073741824 y.lf y.op), (0, .map [(.str tN, .ptr 11 0)]), (12, .map [(.str tN, .ptr 11 0)]), (11, .cells [bs (encR r1), .int .i64 (encR r1).length])]) cDel rfl ⟨⟨by simp, rfl⟩, ⟨by simp, by rw [ClO.fE]; rfl⟩, ⟨by simp, rfl⟩, ⟨by simp, rfl⟩, ⟨by simp, rfl⟩, ⟨by simp, by rw [ClO.fil]; rfl⟩, trivial⟩ rfl (fun _ _ => Le.refl _ _) (fun _ _ => ⟨⟨_, rfl, LeO.refl _ _⟩, ⟨_, rfl, LeO.cl (ClO.fE _)⟩, ⟨_, rfl, LeO.refl _ _⟩, ⟨_, rfl, LeO.refl _ _⟩, ⟨_, rfl, LeO.refl _ _⟩, ⟨_, rfl, LeO.cl (ClO.fil _)⟩, trivial⟩) fun y _ => ?_
        (conv => arg 4; whnf); repeat (refine ⟨rfl, ?_⟩; conv => arg 4; whnf)
        refine br_no (by decide) ?_
        (conv => arg 4; whnf); repeat (refine ⟨rfl, ?_⟩; conv => arg 4; whnf)
        refine callG2 [0, 12, 2, 11, 10, 9] (.int .i64 5) [(9, tbO 2 10), (10, .map (fE m1)), (2, dkO 0 12 1073741824 y.lf y.op), (0, .map [(.str tN, .ptr 11 0)]), (12, .map [(.str tN, .ptr 11 0)]), (11, .cells [bs (encR r1), .int .i64 (encR r1).length])] (cNone y.lf y.op) rfl ⟨⟨by simp, rfl⟩, ⟨by simp, by rw [ClO.fE]; rfl⟩, ⟨by simp, rfl⟩, ⟨by simp, rfl⟩, ⟨by simp, rfl⟩, ⟨by simp, by rw [ClO.fil]; rfl⟩, trivial⟩ rfl (Le.refl _ _) ⟨⟨_, rfl, LeO.refl _ _⟩, ⟨_, rfl, LeO.cl (ClO.fE _)⟩, ⟨_, rfl, LeO.refl _ _⟩, ⟨_, rfl, LeO.refl _ _⟩, ⟨_, rfl, LeO.refl _ _⟩, ⟨_, rfl, LeO.cl (ClO.fil _)⟩, trivial⟩ ?_
        (conv => arg 4; whnf); repeat (refine ⟨rfl, ?_⟩; conv => arg 4; whnf)
        refine br_no (by decide) ?_
        (conv => arg 4; whnf); repeat (refine ⟨rfl, ?_⟩; conv => arg 4; whnf)
        refine callGE2 [0, 12, 2, 11, 10, 9] (fun _ => .int .i64 0) (fun z => [(9, tbO 2 13), (13, .map (fE m2)), (2, dkO 0 15 1073741824 z.lf z.op), (0, .map [(.str tN, .ptr 14 0)]), (15, .map [(.str tN, .ptr 14 0)]), (14, .cells [bs (encR r2), .int .i64 (encR r2).length])]) (cCre y.lf y.op) rfl ⟨⟨by simp, rfl⟩, ⟨by simp, by rw [ClO.fE]; rfl⟩, ⟨by simp, rfl⟩, ⟨by simp, rfl⟩, ⟨by simp, rfl⟩, ⟨by simp, by rw [ClO.fil]; rfl⟩, trivial⟩ rfl (fun _ _ => Le.refl _ _) (fun _ _ => ⟨⟨_, rfl, LeO.refl _ _⟩, ⟨_, rfl, LeO.cl (ClO.fE _)⟩, ⟨_, rfl, LeO.refl _ _⟩, ⟨_, rfl, LeO.refl _ _⟩, ⟨_, rfl, LeO.refl _ _⟩, ⟨_, rfl, LeO.cl (ClO.fil _)⟩, trivial⟩) fun z _ => ?_
        (conv => arg 4; whnf); repeat (refine ⟨rfl, ?_⟩; conv => arg 4; whnf)
        refine br_no (by decide) ?_
        (conv => arg 4; whnf); repeat (refine ⟨rfl, ?_⟩; conv => arg 4; whnf)
        refine callG2 [0, 15, 2, 14] (.tup [.ptr 17 0, .int .i64 0]) [(17, tbO 2 16), (16, .map (fE r2)), (2, dkO 0 15 1073741824 z.lf z.op), (0, .map [(.str tN, .ptr 14 0)]), (15, .map [(.str tN, .ptr 14 0)]), (14, .cells [bs (encR r2), .int .i64 (encR r2).length])] (cOpen z.lf z.op) rfl ⟨⟨by simp, rfl⟩, ⟨by simp, rfl⟩, ⟨by simp, rfl⟩, ⟨by simp, by rw [ClO.fil]; rfl⟩, trivial⟩ rfl (Le.refl _ _) ⟨⟨_, rfl, LeO.refl _ _⟩, ⟨_, rfl, LeO.cl (ClO.fE _)⟩, ⟨_, rfl, LeO.refl _ _⟩, ⟨_, rfl, LeO.refl _ _⟩, ⟨_, rfl, LeO.refl _ _⟩, ⟨_, rfl, LeO.cl (ClO.fil _)⟩, trivial⟩ ?_
        (conv => arg 4; whnf); repeat (refine ⟨rfl, ?_⟩; conv => arg 4; whnf)
        refine br_no (by decide) ?_
        (conv => arg 4; whnf); repeat (refine ⟨rfl, ?_⟩; conv => arg 4; whnf)
        refine callG2 [0, 15, 2, 14, 16, 17] (.tup [.int .i64 3, .bool true]) [(17, tbO 2 16), (16, .map (fE r2)), (2, dkO 0 15 1073741824 z.lf z.op), (0, .map [(.str tN, .ptr 14 0)]), (15, .map [(.str tN, .ptr 14 0)]), (14, .cells [bs (encR r2), .int .i64 (encR r2).length])] (cP1 z.lf z.op) rfl ⟨⟨by simp, rfl⟩, ⟨by simp, by rw [ClO.fE]; rfl⟩, ⟨by simp, rfl⟩, ⟨by simp, rfl⟩, ⟨by simp, rfl⟩, ⟨by simp, by rw [ClO.fil]; rfl⟩, trivial⟩ rfl (Le.refl _ _) ⟨⟨_, rfl, LeO.refl _ _⟩, ⟨_, rfl, LeO.cl (ClO.fE _)⟩, ⟨_, rfl, LeO.refl _ _⟩, ⟨_, rfl, LeO.refl _ _⟩, ⟨_, rfl, LeO.refl _ _⟩, ⟨_, rfl, LeO.cl (ClO.fil _)⟩, trivial⟩ ?_
        (conv => arg 4; whnf); repeat (refine ⟨rfl, ?_⟩; conv => arg 4; whnf)
        refine callG2 [0, 15, 2, 14, 16, 17] (.tup [.int .i64 0, .bool false]) [(17, tbO 2 16), (16, .map (fE r2)), (2, dkO 0 15 1073741824 z.lf z.op), (0, .map [(.str tN, .ptr 14 0)]), (15, .map [(.str tN, .ptr 14 0)]), (14, .cells [bs (encR r2), .int .i64 (encR r2).length])] (cP2 z.lf z.op) rfl ⟨⟨by simp, rfl⟩, ⟨by simp, by rw [ClO.fE]; rfl⟩, ⟨by simp, rfl⟩, ⟨by simp, rfl⟩, ⟨by simp, rfl⟩, ⟨by simp, by rw [ClO.fil]; rfl⟩, trivial⟩ rfl (Le.refl _ _) ⟨⟨_, rfl, LeO.refl _ _⟩, ⟨_, rfl, LeO.cl (ClO.fE _)⟩, ⟨_, rfl, LeO.refl _ _⟩, ⟨_, rfl, LeO.refl _ _⟩, ⟨_, rfl, LeO.refl _ _⟩, ⟨_, rfl, LeO.cl (ClO.fil _)⟩, trivial⟩ ?_
        (conv => arg 4; whnf); repeat (refine ⟨rfl, ?_⟩; conv => arg 4; whnf)
        refine br_yes (by rfl) ?_
        (conv => arg 4; whnf); repeat (refine ⟨rfl, ?_⟩; conv => arg 4; whnf)
        refine callG2 [0, 15, 2, 14, 16, 17] (.sl .none 2 (rowsA r2)) [(17, tbO 2 16), (16, .map (fE r2)), (2, dkO 0 15 1073741824 z.lf z.op), (0, .map [(.str tN, .ptr 14 0)]), (15, .map [(.str tN, .ptr 14 0)]), (14, .cells [bs (encR r2), .int .i64 (encR r2).length])] cL rfl ⟨⟨by simp, rfl⟩, ⟨by simp, by rw [ClO.fE]; rfl⟩, trivial⟩ rfl (Le.cl (Cl.sl (ClL.rows _))) ⟨⟨_, rfl, LeO.refl _ _⟩, ⟨_, rfl, LeO.cl (ClO.fE _)⟩, ⟨_, rfl, LeO.refl _ _⟩, ⟨_, rfl, LeO.refl _ _⟩, ⟨_, rfl, LeO.refl _ _⟩, ⟨_, rfl, LeO.refl _ _⟩, trivial⟩ ?_
        (conv => arg 4; whnf); repeat (refine ⟨rfl, ?_⟩; conv => arg 4; whnf)
        refine br_yes (by rw [rows_length]; simp; omega) ?_
        (conv => arg 4; whnf); repeat (refine ⟨rfl, ?_⟩; conv => arg 4; whnf)
        refine call0 awake21 (by (repeat' (first | with_reducible assumption | exact ClL.nil | exact Cl.int _ _ | exact Cl.bool _ | exact Cl.bl _ | exact Cl.bs _ | exact Cl.str _ | exact Cl.nils | exact Cl.nilp | exact Cl.rec _ | exact Cl.bat _ | exact Cl.recsV _ | exact Cl.strsV _ | exact Cl.intsV _ | exact Cl.req _ | exact Cl.rsp _ | exact Cl.reqA _ | exact Cl.rspA _ | exact Cl.batsV _ | exact Cl.prsV _ | exact Cl.atsV _ | exact Cl.entA _ _ | exact Cl.ent _ | exact Cl.rr _ _ | exact Cl.foundA _ | exact Cl.getB _ | exact Cl.encA _ | exact Cl.firstA _ | refine ClL.cons ?_ ?_ | refine Cl.tup ?_ | refine Cl.agg ?_ | exact ClO.RO _ _))) (by (repeat' (first | with_reducible assumption | exact ClL.nil | exact Cl.int _ _ | exact Cl.bool _ | exact Cl.bl _ | exact Cl.bs _ | exact Cl.str _ | exact Cl.nils | exact Cl.nilp | exact Cl.rec _ | exact Cl.bat _ | exact Cl.recsV _ | exact Cl.strsV _ | exact Cl.intsV _ | exact Cl.req _ | exact Cl.rsp _ | exact Cl.reqA _ | exact Cl.rspA _ | exact Cl.batsV _ | exact Cl.prsV _ | exact Cl.atsV _ | exact Cl.entA _ _ | exact Cl.ent _ | exact Cl.rr _ _ | exact Cl.foundA _ | exact Cl.getB _ | exact Cl.encA _ | exact Cl.firstA _ | refine ClL.cons ?_ ?_ | refine Cl.tup ?_ | refine Cl.agg ?_ | exact ClO.RO _ _))) ?_
        (conv => arg 4; whnf); repeat (refine ⟨rfl, ?_⟩; conv => arg 4; whnf)
        exact .inl rfl
end Go.Proofs.Ytlcanameloklbaa.Tp

namespace Go.Proofs.Ytlcanameloklbaa
set_option maxRecDepth 100000
set_option maxHeartbeats 80000000
open Go.Sym

theorem i64_of {x : Int} (h : (Lit.int .i64 x).wf = true) : I64 x := by
  simp only [Lit.wf, Bool.and_eq_true, decide_eq_true_eq] at h
  exact h

theorem items_of {els : List AV} (h : ∀ x ∈ els, ∃ m cs, isElem 4 x cs ∧ Sym.Good Try.prog m 55 cs) : ∃ l : List Item, els = items l ∧ ∀ x ∈ l, x.ok := by
  induction els with
  | nil => exact ⟨[], rfl, by simp⟩
  | cons x els ih =>
    obtain ⟨l, rfl, hl⟩ := ih fun y hy => h y (List.mem_cons_of_mem _ hy)
    obtain ⟨m, cs, he, g⟩ := h x List.mem_cons_self
    obtain ⟨m, g⟩ := Sym.Good.struct Try.underlying55 (by kernel_rfl) g
    obtain ⟨_, _, rfl, g1, _, _, rfl, g2, _, _, rfl, g3, _, _, rfl, g4, rfl⟩ := g
    obtain ⟨x1, rfl, w1⟩ := Sym.Good.int Try.underlying3 g1
    obtain ⟨x2, rfl, w2⟩ := Sym.Good.int Try.underlying3 g2
    obtain ⟨x3, rfl, w3⟩ := Sym.Good.int Try.underlying3 g3
    obtain ⟨x4, rfl, w4⟩ := Sym.Good.str Try.underlying9 g4
    refine ⟨⟨x1, x2, x3, x4⟩ :: l, ?_, ?_⟩
    · simp only [isElem] at he
      rw [if_neg (by decide)] at he
      rw [he]; rfl
    · intro y hy
      rcases List.mem_cons.1 hy with rfl | hy
      · exact ⟨i64_of w1, i64_of w2, i64_of w3⟩
      · exact hl y hy
theorem bytes_of {t : TypeId} {els : List AV} (hu : Try.prog.underlying t = some (.int .u8)) (h : ∀ x ∈ els, ∃ m cs, isElem 0 x cs ∧ Sym.Good Try.prog m t cs) : ∃ l : List UInt8, els = u8s l := by
  induction els with
  | nil => exact ⟨[], rfl⟩
  | cons x els ih =>
    obtain ⟨l, rfl⟩ := ih fun y hy => h y (List.mem_cons_of_mem _ hy)
    obtain ⟨m, cs, he, g⟩ := h x List.mem_cons_self
    obtain ⟨z, rfl, w⟩ := Sym.Good.int hu g
    simp only [Lit.wf, Bool.and_eq_true, decide_eq_true_eq] at w
    have w1 : 0 ≤ z := w.1
    have w2 : z ≤ 255 := w.2
    simp only [isElem, if_true, List.cons.injEq, and_true] at he
    subst he
    refine ⟨UInt8.ofNat z.toNat :: l, ?_⟩
    simp only [u8s, List.map_cons, u8]
    congr 2
    simp
    omega

theorem ints_of {t : TypeId} {els : List AV} (hu : Try.prog.underlying t = some (.int .i64)) (h : ∀ x ∈ els, ∃ m cs, isElem 0 x cs ∧ Sym.Good Try.prog m t cs) : ∃ l : List Int, els = ints l ∧ ∀ x ∈ l, I64 x := by
  induction els with
  | nil => exact ⟨[], rfl, by simp⟩
  | cons x els ih =>
    obtain ⟨l, rfl, hl⟩ := ih fun y hy => h y (List.mem_cons_of_mem _ hy)
    obtain ⟨m, cs, he, g⟩ := h x List.mem_cons_self
    obtain ⟨z, rfl, w⟩ := Sym.Good.int hu g
    simp only [isElem, if_true, List.cons.injEq, and_true] at he
    subst he
    refine ⟨z :: l, rfl, ?_⟩
    intro y hy
    rcases List.mem_cons.1 hy with rfl | hy
    · exact i64_of w
    · exact hl y hy

end Go.Proofs.Ytlcanameloklbaa

namespace Go.Proofs.Ytlcanameloklbaa.Tp
set_option maxRecDepth 100000
set_option maxHeartbeats 80000000
open Go.Sym

theorem inv0 (W : World) : Inv (F0 W) V0 [] W :=
  ⟨fun b o x h => h, fun id o hg => by simp [Go.Sym.get] at hg, fun id o b off hg => by simp [Go.Sym.get] at hg, fun id id' o o' b hg => by simp [Go.Sym.get] at hg⟩
theorem str_lt {s : List UInt8} (h : s.length ≤ reachBytes) : s.length ≤ 1000000000000000 := by
  unfold reachBytes at h
  omega
theorem bytes_lt {els : List AV} {n : Nat} (h : els.length * n ≤ reachBytes) (hn : 1 ≤ n) : els.length ≤ 1000000000000000 := by
  have : els.length * 1 ≤ els.length * n := Nat.mul_le_mul_left _ hn
  unfold reachBytes at h
  omega
theorem stps_of {els : List AV} (h : ∀ x ∈ els, ∃ m cs, isElem 3 x cs ∧ Sym.Good Try.prog m 66 cs) : ∃ l : List Stp, els = stpsL l ∧ ∀ s ∈ l, s.name.length ≤ 1000000000000000 := by
  induction els with
  | nil => exact ⟨[], rfl, by simp⟩
  | cons x els ih =>
    obtain ⟨l, rfl, hb⟩ := ih fun y hy => h y (List.mem_cons_of_mem _ hy)
    obtain ⟨m, cs, he, g⟩ := h x List.mem_cons_self
    obtain ⟨m, g⟩ := Sym.Good.struct Try.underlying66 (by kernel_rfl) g
    obtain ⟨_, _, rfl, g1, _, _, rfl, g2, _, _, rfl, g3, rfl⟩ := g
    obtain ⟨x1, rfl, w1⟩ := Sym.Good.int Try.underlying3 g1
    obtain ⟨x2, rfl, w2⟩ := Sym.Good.str Try.underlying9 g2
    obtain ⟨x3, rfl, w3⟩ := Sym.Good.int Try.underlying3 g3
    simp only [isElem] at he
    rw [if_neg (by decide)] at he
    subst he
    refine ⟨⟨x1, x2, x3⟩ :: l, rfl, fun y hy => ?_⟩
    rcases List.mem_cons.1 hy with rfl | hy
    · exact str_lt w2
    · exact hb y hy
end Go.Proofs.Ytlcanameloklbaa.Tp
