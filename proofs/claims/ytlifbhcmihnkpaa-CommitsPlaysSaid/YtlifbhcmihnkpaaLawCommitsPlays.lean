/-
  CommitsPlays: whatever steps, entry and number are given, the law answers true and leaves its arguments as they were.
  No condition beyond the row's own.
-/
import Derived.Test.YtlifbhcmihnkpaaRows
import Derived.Test.YtlifbhcmihnkpaaTxt6
set_option linter.unusedVariables false
set_option linter.unusedSimpArgs false
namespace Go.Proofs.Ytlifbhcmihnkpaa.LawCommitsPlays
set_option maxRecDepth 100000
set_option maxHeartbeats 80000000
open Go.Sym Go.ChangeShapes Go.WideShapes Go.ChangeAt Go.RowKit Go.ChangeMaps

theorem own_ : ownKnob Try.prog.godebug = none := by kernel_rfl
theorem laidOut_ : laidOutB Try.prog = true := by kernel_rfl

set_option maxRecDepth 100000 in
theorem lifted_ (os : Os) (started : os.Started) (H : Type) (enc : TypeId × Value → H) :
    ReturnsInHanded {} Try.checked os 17 .any (Rows.commitsPlaysSpec.pre6 enc Try.prog Try.f17 Rows.commitsPlaysRow.domain false) (Rows.commitsPlaysSpec.post enc Try.prog Try.f17 false true false false) := by
  refine returnsInHanded_of_change_sized (C := Try.checked) own_ started (by kernel_rfl) Try.func17
    (ChangeSpec.witness6 (enc := enc) (C := Try.checked) false ⟨#[], #[.slice none 0 0, .agg #[.string ByteArray.empty, .string ByteArray.empty, .int .i64 0, .int .i64 0], .int .i64 0], []⟩ 8 (by kernel_rfl) (by kernel_rfl) (by kernel_rfl) (by kernel_rfl)) ?_
  intro W base args ds gs before hval0 hW hcnd hsz0 _
  have hsz : (DataW.weightsEach Try.prog (Try.f17.params.toList ++ Rows.commitsPlaysSpec.plain.varTypes Try.prog) (ds ++ gs)).all (· ≤ reachBytes) = true := hsz0
  have hval : ∀ (j : Nat) t v, Try.f17.params[j]? = some t → args[j]? = some v → Value.okWide Try.prog W .any base t v := hval0
  have hW' := hW
  obtain ⟨p, q, hA0, hV, rfl, hfz, hnd⟩ := hW
  have hA : DataW.TrodAll enc Try.prog W 0 (fun _ => true) true Try.f17.params.toList args.toList ds p := hA0
  rw [Try.params17] at hA hval hsz
  obtain ⟨v0, vs0, d0, ds0, p0, q0, hargs, rfl, rfl, h0, r0⟩ := trodAll_cons hA
  obtain ⟨v1, vs1, d1, ds1, p1, q1, rfl, rfl, rfl, h1, r1⟩ := trodAll_cons r0
  obtain ⟨v2, vs2, d2, ds2, p2, q2, rfl, rfl, rfl, h2, r2⟩ := trodAll_cons r1
  obtain ⟨rfl, rfl, rfl⟩ := trodAll_nil r2
  obtain rfl : args = #[v0, v1, v2] := by cases args; simp_all
  obtain ⟨rfl, rfl⟩ := trodVars_none hV
  have k0 := h0
  have lt0 : ∀ x ∈ p0, x.block < W.heap.size := by obtain ⟨m, hm⟩ := k0; exact DataW.trod_lt m _ _ _ hm
  obtain ⟨a0, len0, cap0, rfl⟩ := okWide_slice Try.underlying81 (hval 0 81 v0 rfl rfl)
  obtain ⟨n0, l0, hr0, g0⟩ := arg_good (V := V0) h0 (weights_of hsz (j := 0) rfl rfl)
  obtain ⟨els0, rfl, hz0, he0⟩ := Sym.Good.slice (k := 12) Try.underlying81 (by kernel_rfl) (by kernel_rfl) g0
  have hr0 := arg_one rfl hr0
  have k1 := h1
  have lt1 : ∀ x ∈ p1, x.block < W.heap.size := by obtain ⟨m, hm⟩ := k1; exact DataW.trod_lt m _ _ _ hm
  obtain ⟨cs1, rfl, hcs1⟩ := okWide_struct Try.underlying57 (hval 1 57 v1 rfl rfl)
  obtain ⟨n1, l1, hr1, g1⟩ := arg_good (V := V0) h1 (weights_of hsz (j := 1) rfl rfl)
  have ho1 : ∀ c ∈ cs1.toList, c.oneCell' = true := by obtain ⟨m, hm⟩ := k1; exact trod_ones 8 m _ _ _ hm (by kernel_rfl)
  have hr1 := arg_agg ho1 hr1
  obtain ⟨a2, rfl, rfl, rfl, w2⟩ := open_int Try.underlying3 (hval 2 3 v2 rfl rfl) h2
  obtain ⟨l0', hn0, hb0, hle0⟩ := Cm.stps_of he0
  have hr0 := (Le.slL (p := .none) (k := 12) hle0 fun h => List.eq_nil_of_length_eq_zero (by have := congrArg List.length h; simp only [List.length_nil] at this; rw [Cm.stps_length]; omega)) _ _ W _ (Cm.inv0 W) hr0
  have hz0' := Cm.bytes_lt hz0 (of_decide_eq_true (by kernel_rfl))
  obtain ⟨e1', hb1, hl1⟩ := Cm.ent_of g1
  have hr1 := hl1 _ _ W _ (Cm.inv0 W) hr1
  clear hA0 hval0 hsz0 hsz
  refine (law_calls (Cm.lawPlays (l := l0') (most := a2) (by omega) hb0 hb1.1 hb1.2) (by simp only [repL]; exact ⟨_, _, rfl, hr0, ⟨_, _, rfl, hr1, ⟨_, _, rfl, (by simp only [rep]), rfl⟩⟩⟩)).mono fun e W' ⟨he, bel⟩ => ?_
  subst he
  exact ⟨_, rfl, _, _, _, [], _, [], hW', trodAll_mk1 (shut_bool Try.underlying4 _), (trodAll_cons_mk (Below.trod laidOut_ (by kernel_rfl) (of_decide_eq_true (by kernel_rfl)) k0 bel lt0) (trodAll_cons_mk (Below.trod laidOut_ (by kernel_rfl) (of_decide_eq_true (by kernel_rfl)) k1 bel lt1) (trodAll_cons_mk (shut_int Try.underlying3 w2) trodAll_mk0))), rfl, bel.frame _, fun h => by cases h⟩

theorem over_ : Rows.commitsPlaysRow.holds Try.pinned (OpenSpec.ofChange Rows.commitsPlaysSpec) :=
  OpenClaim.holds_of_wide 17 Try.f17 rfl rfl rfl rfl rfl rfl rfl ⟨rfl, rfl, rfl, rfl, rfl⟩ rfl rfl rfl rfl rfl (by kernel_rfl) Try.func17 (by kernel_rfl)
    (of_decide_eq_true (by kernel_rfl)) (by unfold Func.isWrapper; first | (rw [if_pos (by decide +kernel)]; kernel_rfl) | (rw [if_neg (by decide +kernel)]; exact ⟨rfl, rfl⟩))
    (fun os started H enc _ => lifted_ os started H enc)

theorem proved : Rows.CommitsPlaysSaid := over_
#print axioms proved
end Go.Proofs.Ytlifbhcmihnkpaa.LawCommitsPlays
