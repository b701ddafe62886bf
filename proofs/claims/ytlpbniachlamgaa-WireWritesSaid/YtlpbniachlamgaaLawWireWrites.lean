/-
  WireWrites: whatever items are given, the law answers true and leaves its argument as it was.
  No condition beyond the row's own.
-/
import Derived.Test.YtlpbniachlamgaaRows
import Derived.Test.YtlpbniachlamgaaTxt1
import Derived.Test.YtlpbniachlamgaaSym4
namespace Go.Proofs.Ytlpbniachlamgaa
open Go.Sym Go.ChangeShapes Go.WideShapes Go.ChangeAt Go.RowKit

theorem own_ : ownKnob Try.prog.godebug = none := by kernel_rfl
theorem laidOut_ : laidOutB Try.prog = true := by kernel_rfl

theorem i64_of {x : Int} (h : (Lit.int .i64 x).wf = true) : I64 x := by
  simp only [Lit.wf, Bool.and_eq_true, decide_eq_true_eq] at h
  exact h

theorem items_of {els : List AV} (h : ∀ x ∈ els, ∃ m cs, isElem 4 x cs ∧ Sym.Good Try.prog m 55 cs) : ∃ l : List Item, els = items l ∧ ∀ x ∈ l, x.ok := by
  induction els with
  | nil => exact ⟨[], rfl, by simp⟩
  | cons x els ih =>
    obtain ⟨l, rfl, hl⟩ := ih fun y hy => h y (List.mem_cons_of_mem _ hy)
    obtain ⟨m, cs, he, g⟩ := h x List.mem_cons_self
    obtain ⟨m, g⟩ := Sym.Good.struct Try.underlying55 (by kernel_rfl) g
    obtain ⟨_, _, rfl, g1, _, _, rfl, g2, _, _, rfl, g3, _, _, rfl, g4, rfl⟩ := g
    obtain ⟨x1, rfl, w1⟩ := Sym.Good.int Try.underlying3 g1
    obtain ⟨x2, rfl, w2⟩ := Sym.Good.int Try.underlying3 g2
    obtain ⟨x3, rfl, w3⟩ := Sym.Good.int Try.underlying3 g3
    obtain ⟨x4, rfl, w4⟩ := Sym.Good.str Try.underlying9 g4
    refine ⟨⟨x1, x2, x3, x4⟩ :: l, ?_, ?_⟩
    · simp only [isElem] at he
      rw [if_neg (by decide)] at he
      rw [he]; rfl
    · intro y hy
      rcases List.mem_cons.1 hy with rfl | hy
      · exact ⟨i64_of w1, i64_of w2, i64_of w3⟩
      · exact hl y hy
theorem writes_ {l : List Item} (ho : ∀ x ∈ l, x.ok) : CallOK Try.prog 3 [.sl .none 4 (items l)] [] 0 (fun a _ _ => a = .bool true ∨ a = .bl true) :=
  (writes ho).mono fun _ _ _ h => .inl h.1

set_option maxRecDepth 100000 in
theorem lifted_ (os : Os) (started : os.Started) (H : Type) (enc : TypeId × Value → H) :
    ReturnsInHanded {} Try.checked os 3 .any (Rows.wireWritesSpec.pre6 enc Try.prog Try.f3 Rows.wireWritesRow.domain false) (Rows.wireWritesSpec.post enc Try.prog Try.f3 false true false false) := by
  refine returnsInHanded_of_change_sized (C := Try.checked) own_ started (by kernel_rfl) Try.func3
    (ChangeSpec.witness6 (enc := enc) (C := Try.checked) false ⟨#[], #[.slice none 0 0], []⟩ 8 (by kernel_rfl) (by kernel_rfl) (by kernel_rfl) (by kernel_rfl)) ?_
  intro W base args ds gs before hval0 hW hcnd hsz0 _
  have hsz : (DataW.weightsEach Try.prog (Try.f3.params.toList ++ Rows.wireWritesSpec.plain.varTypes Try.prog) (ds ++ gs)).all (· ≤ reachBytes) = true := hsz0
  have hval : ∀ (j : Nat) t v, Try.f3.params[j]? = some t → args[j]? = some v → Value.okWide Try.prog W .any base t v := hval0
  have hW' := hW
  obtain ⟨p, q, hA0, hV, rfl, hfz, hnd⟩ := hW
  have hA : DataW.TrodAll enc Try.prog W 0 (fun _ => true) true Try.f3.params.toList args.toList ds p := hA0
  rw [Try.params3] at hA hval hsz
  obtain ⟨v0, vs0, d0, ds0, p0, q0, hargs, rfl, rfl, h0, r0⟩ := trodAll_cons hA
  obtain ⟨rfl, rfl, rfl⟩ := trodAll_nil r0
  obtain rfl : args = #[v0] := by cases args; simp_all
  obtain ⟨rfl, rfl⟩ := trodVars_none hV
  have k0 := h0
  have lt0 : ∀ x ∈ p0, x.block < W.heap.size := by obtain ⟨m, hm⟩ := k0; exact DataW.trod_lt m _ _ _ hm
  obtain ⟨a0, len0, cap0, rfl⟩ := okWide_slice Try.underlying22 (hval 0 22 v0 rfl rfl)
  obtain ⟨n0, l0, hr0, g0⟩ := arg_good (V := V0) h0 (weights_of hsz (j := 0) rfl rfl)
  obtain ⟨els0, rfl, -, he0⟩ := Sym.Good.slice (k := 4) Try.underlying22 (by kernel_rfl) (by kernel_rfl) g0
  have hr0 := arg_one rfl hr0
  obtain ⟨l, rfl, ho⟩ := items_of he0
  clear hA0 hval0 hsz0 hsz
  refine (law_calls (writes_ ho) (by simp only [repL]; exact ⟨_, _, rfl, hr0, rfl⟩)).mono fun e W' ⟨he, bel⟩ => ?_
  subst he
  exact ⟨_, rfl, _, _, _, [], _, [], hW', trodAll_mk1 (shut_bool Try.underlying4 _), trodAll_mk1 (Below.trod laidOut_ (by kernel_rfl) (of_decide_eq_true (by kernel_rfl)) k0 bel lt0), rfl, bel.frame _, fun h => by cases h⟩

theorem over_ : Rows.wireWritesRow.holds Try.pinned (OpenSpec.ofChange Rows.wireWritesSpec) :=
  OpenClaim.holds_of_wide 3 Try.f3 rfl rfl rfl rfl rfl rfl rfl ⟨rfl, rfl, rfl, rfl, rfl⟩ rfl rfl rfl rfl rfl (by kernel_rfl) Try.func3 (by kernel_rfl)
    (of_decide_eq_true (by kernel_rfl)) (by unfold Func.isWrapper; first | (rw [if_pos (by decide +kernel)]; kernel_rfl) | (rw [if_neg (by decide +kernel)]; exact ⟨rfl, rfl⟩))
    (fun os started H enc _ => lifted_ os started H enc)

theorem wireWrites_holds : Rows.WireWritesSaid := over_
#print axioms wireWrites_holds
end Go.Proofs.Ytlpbniachlamgaa
