/-
  Arguments of rows: items, numbers, bytes.
-/
import Derived.Test.YtlpbniachlamgaaTxt1
import Derived.Test.YtlpbniachlamgaaSym4
set_option linter.unusedVariables false
set_option linter.unusedSimpArgs false
namespace Go.Proofs.Ytlpbniachlamgaa
set_option maxRecDepth 100000
set_option maxHeartbeats 80000000
open Go.Sym

theorem i64_of {x : Int} (h : (Lit.int .i64 x).wf = true) : I64 x := by
  simp only [Lit.wf, Bool.and_eq_true, decide_eq_true_eq] at h
  exact h

theorem items_of {els : List AV} (h : ∀ x ∈ els, ∃ m cs, isElem 4 x cs ∧ Sym.Good Try.prog m 55 cs) : ∃ l : List Item, els = items l ∧ ∀ x ∈ l, x.ok := by
  induction els with
  | nil => exact ⟨[], rfl, by simp⟩
  | cons x els ih =>
    obtain ⟨l, rfl, hl⟩ := ih fun y hy => h y (List.mem_cons_of_mem _ hy)
    obtain ⟨m, cs, he, g⟩ := h x List.mem_cons_self
    obtain ⟨m, g⟩ := Sym.Good.struct Try.underlying55 (by kernel_rfl) g
    obtain ⟨_, _, rfl, g1, _, _, rfl, g2, _, _, rfl, g3, _, _, rfl, g4, rfl⟩ := g
    obtain ⟨x1, rfl, w1⟩ := Sym.Good.int Try.underlying3 g1
    obtain ⟨x2, rfl, w2⟩ := Sym.Good.int Try.underlying3 g2
    obtain ⟨x3, rfl, w3⟩ := Sym.Good.int Try.underlying3 g3
    obtain ⟨x4, rfl, w4⟩ := Sym.Good.str Try.underlying9 g4
    refine ⟨⟨x1, x2, x3, x4⟩ :: l, ?_, ?_⟩
    · simp only [isElem] at he
      rw [if_neg (by decide)] at he
      rw [he]; rfl
    · intro y hy
      rcases List.mem_cons.1 hy with rfl | hy
      · exact ⟨i64_of w1, i64_of w2, i64_of w3⟩
      · exact hl y hy
theorem bytes_of {t : TypeId} {els : List AV} (hu : Try.prog.underlying t = some (.int .u8)) (h : ∀ x ∈ els, ∃ m cs, isElem 0 x cs ∧ Sym.Good Try.prog m t cs) : ∃ l : List UInt8, els = u8s l := by
  induction els with
  | nil => exact ⟨[], rfl⟩
  | cons x els ih =>
    obtain ⟨l, rfl⟩ := ih fun y hy => h y (List.mem_cons_of_mem _ hy)
    obtain ⟨m, cs, he, g⟩ := h x List.mem_cons_self
    obtain ⟨z, rfl, w⟩ := Sym.Good.int hu g
    simp only [Lit.wf, Bool.and_eq_true, decide_eq_true_eq] at w
    have w1 : 0 ≤ z := w.1
    have w2 : z ≤ 255 := w.2
    simp only [isElem, if_true, List.cons.injEq, and_true] at he
    subst he
    refine ⟨UInt8.ofNat z.toNat :: l, ?_⟩
    simp only [u8s, List.map_cons, u8]
    congr 2
    simp
    omega

theorem ints_of {t : TypeId} {els : List AV} (hu : Try.prog.underlying t = some (.int .i64)) (h : ∀ x ∈ els, ∃ m cs, isElem 0 x cs ∧ Sym.Good Try.prog m t cs) : ∃ l : List Int, els = ints l ∧ ∀ x ∈ l, I64 x := by
  induction els with
  | nil => exact ⟨[], rfl, by simp⟩
  | cons x els ih =>
    obtain ⟨l, rfl, hl⟩ := ih fun y hy => h y (List.mem_cons_of_mem _ hy)
    obtain ⟨m, cs, he, g⟩ := h x List.mem_cons_self
    obtain ⟨z, rfl, w⟩ := Sym.Good.int hu g
    simp only [isElem, if_true, List.cons.injEq, and_true] at he
    subst he
    refine ⟨z :: l, rfl, ?_⟩
    intro y hy
    rcases List.mem_cons.1 hy with rfl | hy
    · exact i64_of w
    · exact hl y hy

end Go.Proofs.Ytlpbniachlamgaa
